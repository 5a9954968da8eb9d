/-
  Texts that belong together, one behind the other; what each of them proves, and under which conditions, its own heading says.
-/
import Derived.Test.YtpkbecaailhhmaaRows
import Derived.Test.YtpkbecaailhhmaaKa
/-
  The data-level framework, part p: calls that are entered with the caller's boxes; boxes that become immutable data. Generic in the program; no condition.
-/
set_option linter.unusedVariables false
set_option linter.unusedSimpArgs false
namespace Go.DL
open Go.RowKit

def C.keep (ok : Nat → Bool) : C → C
  | .own i => match ok i with | true => .own i | false => .junk
  | .ref i o => match ok i with | true => .ref i o | false => .junk
  | .rref i k o => match ok i with | true => .rref i k o | false => .junk
  | .fn f caps => match caps.all (fun c => match c with | .inl i => ok i | .inr _ => true) with | true => .fn f caps | false => .junk
  | c => c

def LV.keep (ok : Nat → Bool) : LV → LV
  | .one c => .one (c.keep ok)
  | .agg cs => .agg (cs.map (C.keep ok))
  | .tup vs => .tup (vs.map fun p => (p.1, p.2.map (C.keep ok)))

def capLV : Sum Nat D → LV
  | .inl i => .one (.ref i 0)
  | .inr d => .one (.dat d)

def partOf : LV → Bool × List C
  | .one c => (false, [c])
  | .agg cs => (true, cs)
  | .tup _ => (false, [])

def resLV (ls : List LV) : LV :=
  match ls with
  | [l] => l
  | ls => .tup (ls.map partOf)

def liveIn (bx : List (Nat × Box)) (base : Nat) (i : Nat) : Bool := Nat.blt i base && bx.any fun p => p.1 == i

/-- The caller's state behind the call. -/
def DS.back (s : DS) (bx : List (Nat × Box)) (base : Nat) : DS := ⟨s.sl.map (LV.keep (liveIn bx base)), bx⟩

def inlinePost (P : Program) (fn : Func) (base' : Nat) (N : DS → Prop) (dst : Option Tmp) (s : DS) : DX → DS → Prop
  | .normal, s' => ∃ ls, dres P s' fn.results.toList = some ls ∧ N ((s.back s'.bx base').put dst (resLV ls))
  | .ret, s' => ∃ ls, dres P s' fn.results.toList = some ls ∧ N ((s.back s'.bx base').put dst (resLV ls))
  | _, _ => False

section
variable {P : Program} {w : World} {A : Nat → Prop} {M M' : BMap}

theorem C.keep_rel {ok : Nat → Bool} {c : C} {v : Value} (hM : ∀ i, ok i = true → M'.blk i = M.blk i ∧ M'.rv i = M.rv i ∧ M'.sz i = M.sz i) (h : C.rel w A M c v) : C.rel w A M' (c.keep ok) v := by
  cases c with
  | own i =>
    simp only [C.keep]
    split
    · rename_i hi; simpa [C.rel, hM i hi] using h
    · trivial
  | ref i o =>
    simp only [C.keep]
    split
    · rename_i hi; simpa [C.rel, hM i hi] using h
    · trivial
  | rref i k o =>
    simp only [C.keep]
    split
    · rename_i hi; simpa [C.rel, hM i hi] using h
    · trivial
  | fn f caps =>
    simp only [C.keep]
    split
    · rename_i hi
      obtain ⟨arr, h1, h2, h3⟩ := h
      refine ⟨arr, h1, h2, fun j c hj => ?_⟩
      obtain ⟨u, hu, hr⟩ := h3 j c hj
      refine ⟨u, hu, ?_⟩
      cases c with
      | inl i =>
        have := List.all_eq_true.1 hi _ (List.mem_of_getElem? hj)
        simp only at this
        simpa [capRel, hM i this] using hr
      | inr d => exact hr
    · trivial
  | dat d => exact h
  | junk => trivial

theorem cells_keep {ok : Nat → Bool} {cs : List C} {arr : Array Value} (hM : ∀ i, ok i = true → M'.blk i = M.blk i ∧ M'.rv i = M.rv i ∧ M'.sz i = M.sz i) (h : cellsRel w A M cs arr) : cellsRel w A M' (cs.map (C.keep ok)) arr := by
  refine ⟨by simp [h.1], fun j c hj => ?_⟩
  simp only [List.getElem?_map, Option.map_eq_some_iff] at hj
  obtain ⟨c', hc', rfl⟩ := hj
  obtain ⟨u, hu, hr⟩ := h.2 j c' hc'
  exact ⟨u, hu, C.keep_rel hM hr⟩

theorem LV.keep_rel {ok : Nat → Bool} {l : LV} {v : Value} (hM : ∀ i, ok i = true → M'.blk i = M.blk i ∧ M'.rv i = M.rv i ∧ M'.sz i = M.sz i) (h : LV.rel w A M l v) : LV.rel w A M' (l.keep ok) v := by
  cases l with
  | one c => exact C.keep_rel hM h
  | agg cs => exact let ⟨arr, h1, h2⟩ := h; ⟨arr, h1, cells_keep hM h2⟩
  | tup ps =>
    obtain ⟨arr, h1, h2, h3⟩ := h
    refine ⟨arr, h1, by simp [h2], fun j p hj => ?_⟩
    simp only [List.getElem?_map, Option.map_eq_some_iff] at hj
    obtain ⟨q, hq, rfl⟩ := hj
    obtain ⟨u, hu, hr⟩ := h3 j q hq
    refine ⟨u, hu, ?_⟩
    obtain ⟨b, cs⟩ := q
    cases b with
    | true => exact let ⟨arr, h1, h2⟩ := hr; ⟨arr, h1, cells_keep hM h2⟩
    | false =>
      match cs, hr with
      | [], _ => trivial
      | [c], hr => exact C.keep_rel hM hr
      | _ :: _ :: _, _ => trivial

theorem partOf_rel {l : LV} {v : Value} (h : LV.rel w A M l v) : partRel w A M (partOf l) v := by
  cases l with
  | one c => exact h
  | agg cs => exact h
  | tup ps => trivial

theorem resLV_rel {ls : List LV} {vs : List Value} (hl : vs.length = ls.length) (h : ∀ (j : Nat) (l : LV), ls[j]? = some l → ∃ u, vs[j]? = some u ∧ LV.rel w A M l u) :
    LV.rel w A M (resLV ls) (if h : vs.toArray.size = 1 then vs.toArray[0] else .tuple vs.toArray) := by
  unfold resLV
  split
  · rename_i l
    have : vs.length = 1 := by rw [hl]; rfl
    obtain ⟨x, rfl⟩ := List.length_eq_one_iff.1 this
    obtain ⟨u, hu, hr⟩ := h 0 l rfl
    simp at hu
    subst hu
    simpa using hr
  · rename_i hne
    have hne1 : vs.toArray.size ≠ 1 := by
      intro he
      have : ls.length = 1 := by rw [← hl]; simpa using he
      obtain ⟨l, rfl⟩ := List.length_eq_one_iff.1 this
      exact hne l rfl
    rw [dif_neg hne1]
    refine ⟨vs.toArray, rfl, by simp [hl], fun j p hj => ?_⟩
    simp only [List.getElem?_map, Option.map_eq_some_iff] at hj
    obtain ⟨l, hlj, rfl⟩ := hj
    obtain ⟨u, hu, hr⟩ := h j l hlj
    exact ⟨u, by simpa using hu, partOf_rel hr⟩

/-- A CALL THAT IS ENTERED WITH THE CALLER's BOXES. -/
theorem TL_inline {base : Nat} {ops : Array Oper} {o : Oper} {rest : List Oper} {Q : DX → DS → Prop} {s : DS} (base' : Nat) {fop : Operand} {args : Array Operand} {ts : Array TypeId} (f : FuncId) (caps : List (Sum Nat D)) (fn : Func) (c : Code)
    (ho : o.op = .call { callee := .value fop, args := args, argTypes := ts }) (hg : o.guard = none) (hf : s.ev fop = .one (.fn f caps)) (hfn : P.funcs[f]? = some fn) (hname : (fn.name == "runtime.NumGoroutine") = false) (hb : fn.body = some c) (hbase : base ≤ base')
    (h : T P base' c (inlinePost P fn base' (TL P base ops rest Q) o.dst s) ⟨args.toList.map s.ev ++ (caps.map capLV ++ List.replicate (fn.ntmps - (args.size + caps.length)) (.one .junk)), s.bx⟩) : TL P base ops (o :: rest) Q s := by
  intro E M w a hE hst
  refine wpList_plain hg fun K hK => ?_
  have hslots := ev_rel hst.size hst.slots
  have hfr := hslots fop
  rw [hf] at hfr
  obtain ⟨cv, hfv, hcs, hcv⟩ := hfr
  unfold Oper.wp
  rw [run_call_func ho hfv ⟨fn, hfn, hname, by rw [hb]; rfl⟩, Oper.upon_enter]
  let E' : Env := ⟨w, E.A0, base', M, fun k => ∃ p ∈ s.bx, boxBlk M p = some k, fun i => i ∈ s.bx.map (·.1), []⟩
  have hO : ∀ k, E'.O k → (E.O k ∨ E.w0.heap.size ≤ k) ∧ k < w.heap.size := fun k ⟨p, hp, hk⟩ => hst.boxes.new p hp k hk
  have hbx' : Boxes E' M w s.bx := {
    ok := hst.boxes.ok
    ids := hst.boxes.ids
    blks := hst.boxes.blks
    new := fun p hp k hk => ⟨.inl ⟨p, hp, hk⟩, (hst.boxes.new p hp k hk).2⟩
    foreign := fun b hb => by
      have h1 := hst.boxes.foreign b hb
      refine ⟨Nat.lt_of_lt_of_le h1.1 hst.boxes.frame.size, fun hob => ?_⟩
      rcases (hO b hob).1 with h2 | h2
      · exact h1.2 h2
      · have := h1.1; omega
    frame := Fr.refl _ _
    old := fun p hp _ => ⟨List.mem_map.2 ⟨p, hp, rfl⟩, rfl, rfl, rfl⟩ }
  refine calls_of_wpM hfn hb ?_
  have hst' : St E' M w { tmps := args.map a.eval ++ cv ++ Array.replicate (fn.ntmps - (args.map a.eval ++ cv).size) undef, defers := [] } ⟨args.toList.map s.ev ++ (caps.map capLV ++ List.replicate (fn.ntmps - (args.size + caps.length)) (.one .junk)), s.bx⟩ := by
    refine ⟨rfl, by simp [hcs], fun t l hl => ?_, hbx'⟩
    rw [List.getElem?_append] at hl
    simp only [List.length_map, Array.length_toList] at hl
    rw [Array.append_assoc, Array.getD_eq_getD_getElem?, Array.getElem?_append]
    simp only [Array.size_map]
    split at hl
    · rename_i hlt
      simp only [List.getElem?_map, Option.map_eq_some_iff, Array.getElem?_toList] at hl
      obtain ⟨x, hx, rfl⟩ := hl
      rw [if_pos hlt]
      simp only [Array.getElem?_map, hx, Option.map_some, Option.getD_some]
      exact hslots x
    · rename_i hge
      rw [if_neg hge]
      rw [List.getElem?_append] at hl
      simp only [List.length_map] at hl
      rw [Array.getElem?_append, hcs]
      split at hl
      · rename_i hlt
        rw [if_pos hlt]
        simp only [List.getElem?_map, Option.map_eq_some_iff] at hl
        obtain ⟨cp, hcp, rfl⟩ := hl
        obtain ⟨u, hu, hr⟩ := hcv _ cp hcp
        rw [hu, Option.getD_some]
        cases cp with
        | inl i => exact hr
        | inr d => exact hr
      · rw [List.getElem?_replicate] at hl
        split at hl
        · cases hl; trivial
        · cases hl
  refine wp_mono (h E' M w _ rfl hst') ?_
  rintro e a' wE ⟨E1, hext, x, s', M', hx, hq, hstE⟩
  have key2 : ∀ w', St E' M' w' { a' with defers := [] } s' → (∃ ls, dres P s' fn.results.toList = some ls ∧ TL P base ops rest Q ((s.back s'.bx base').put o.dst (resLV ls))) → ∃ v, (results fn a'.tmps).run P w' = .ok v w' ∧ K (a.put o.dst v) w' := by
    intro w' hst2
    have hFr : Fr E.O E.w0 w' := by
      have h1 := hst2.boxes.frame
      have h2 := hst.boxes.frame
      refine ⟨h1.os.trans h2.os, h1.tape.trans h2.tape, h1.output.trans h2.output, Nat.le_trans h2.size h1.size, fun k hk hok => ?_⟩
      refine (h1.block k (Nat.lt_of_lt_of_le hk h2.size) fun hob => ?_).trans (h2.block k hk hok)
      rcases (hO k hob).1 with h3 | h3
      · exact hok h3
      · omega
    have hBox : Boxes E M' w' s'.bx := {
      ok := hst2.boxes.ok
      ids := hst2.boxes.ids
      blks := hst2.boxes.blks
      new := fun p hp k hk => by
        obtain ⟨h1, h2⟩ := hst2.boxes.new p hp k hk
        refine ⟨?_, h2⟩
        rcases h1 with h1 | h1
        · exact (hO k h1).1
        · exact .inr (Nat.le_trans hst.boxes.frame.size h1)
      foreign := hst.boxes.foreign
      frame := hFr
      old := fun p hp hlt => by
        obtain ⟨h1, h2, h3, h4⟩ := hst2.boxes.old p hp (Nat.lt_of_lt_of_le hlt (by show E.base ≤ base'; omega))
        obtain ⟨p0, hp0, he⟩ := List.mem_map.1 h1
        have := hst.boxes.old p0 hp0 (by rw [he]; exact hlt)
        rw [he] at this
        obtain ⟨g1, g2, g3, g4⟩ := this
        exact ⟨g1, h2.trans g2, h3.trans g3, h4.trans g4⟩ }
    have hKeeps : Keeps w (Av E.A0 M s.bx) w' (Av E.A0 M' s'.bx) := by
      intro b off u h1 h2
      have hlt := World.block_lt_of_cell? w ⟨b, off, none⟩ h2
      have hnO : ¬ E'.O b := fun hob => h1 (.inr hob)
      refine ⟨fun h3 => ?_, ?_⟩
      · rcases h3 with h3 | ⟨p, hp, hk⟩
        · exact h1 (.inl h3)
        · rcases (hst2.boxes.new p hp b hk).1 with h4 | h4
          · exact hnO h4
          · exact absurd hlt (Nat.not_lt.2 h4)
      · rw [World.cell?_of_block (hst2.boxes.frame.block b hlt hnO)]; exact h2
    have hlive : ∀ i, liveIn s'.bx base' i = true → M'.blk i = M.blk i ∧ M'.rv i = M.rv i ∧ M'.sz i = M.sz i := by
      intro i hi
      simp only [liveIn, Bool.and_eq_true, List.any_eq_true, beq_iff_eq] at hi
      obtain ⟨h1, p, hp, he⟩ := hi
      have hlt : i < base' := by simpa [Nat.blt_eq] using h1
      obtain ⟨_, h2, h3, h4⟩ := hst2.boxes.old p hp (by rw [he]; exact hlt)
      rw [he] at h2 h3 h4
      exact ⟨h2, h3, h4⟩
    have hcall : St E M' w' a (s.back s'.bx base') := by
      refine ⟨hst.defers, by simp [DS.back, hst.size], fun t l hl => ?_, hBox⟩
      simp only [DS.back, List.getElem?_map, Option.map_eq_some_iff] at hl
      obtain ⟨l', hl', rfl⟩ := hl
      exact LV.keep_rel hlive ((hst.slots t l' hl').mono hKeeps)
    have key : (∃ ls, dres P s' fn.results.toList = some ls ∧ TL P base ops rest Q ((s.back s'.bx base').put o.dst (resLV ls))) → ∃ v, (results fn a'.tmps).run P w' = .ok v w' ∧ K (a.put o.dst v) w' := by
      rintro ⟨ls, h1, h2⟩
      obtain ⟨vs, h3, h4, h5⟩ := dres_run (P := P) hst2 _ ls h1
      exact ⟨_, results_run fn a'.tmps vs h3, hK _ _ (h2 E M' w' _ hE (hcall.put o.dst (resLV_rel h4 h5)))⟩
    exact key
  have fin : (∃ ls, dres P s' fn.results.toList = some ls ∧ TL P base ops rest Q ((s.back s'.bx base').put o.dst (resLV ls))) → ∃ w2, takeAll P a'.defers wE w2 ∧ ∃ v, (results fn a'.tmps).run P w2 = .ok v w2 ∧ K (a.put o.dst v) w2 := by
    intro hq
    obtain ⟨w2, ht, hst'⟩ := St.atEnd (P := P) hext rfl hbx'.foreign hstE
    exact ⟨w2, ht, key2 _ hst' hq⟩
  cases x with
  | normal =>
    cases e <;> simp only [XRel] at hx
    exact ⟨.inl rfl, fin hq⟩
  | ret =>
    cases e <;> simp only [XRel] at hx
    exact ⟨.inr rfl, fin hq⟩
  | exit id => exact hq.elim
  | panic d => exact hq.elim

/-- Operations of a region one part after the other: first those that are run at once, then what is left. -/
theorem TL_append {base : Nat} {ops : Array Oper} {Q : DX → DS → Prop} : ∀ (l1 l2 : List Oper) (hs : List Hint) (s s' : DS) (side : Prop), dexec P base ops l1 hs s = some (side, s') → side → TL P base ops l2 Q s' → TL P base ops (l1 ++ l2) Q s
  | [], l2, hs, s, s', side, h, _, hq => by
    simp only [dexec, Option.some.injEq, Prod.mk.injEq] at h
    obtain ⟨_, rfl⟩ := h
    exact hq
  | o :: os, l2, hs, s, s', side, h, hside, hq => by
    unfold dexec at h
    split at h
    · cases h
    · rename_i p hw
      split at h
      · rename_i q s2 h2
        simp only [Option.some.injEq, Prod.mk.injEq] at h
        obtain ⟨h1, rfl⟩ := h
        rw [← h1] at hside
        intro E M w a hb hst
        rw [List.cons_append]
        refine wpList_step fun K hK => ?_
        rw [wantB_sound hw hside.1 hst]
        simp only [Bool.false_eq_true, if_false]
        exact hK _ _ (TL_append os l2 _ _ _ q h2 hside.2 hq E M w _ hb (hst.put o.dst (l := UD) ud_rel))
      · cases h
    · rename_i p hw
      split at h
      · cases h
      · rename_i r s1 h3
        split at h
        · rename_i q s2 h2
          simp only [Option.some.injEq, Prod.mk.injEq] at h
          obtain ⟨h1, rfl⟩ := h
          rw [← h1] at hside
          intro E M w a hb hst
          rw [List.cons_append]
          refine wpList_step fun K hK => ?_
          rw [wantB_sound hw hside.1 hst]
          simp only [if_true]
          exact dstep_sound h3 hside.2.1 hst hb K _ fun v w' M' hst' => hK _ _ (TL_append os l2 _ _ _ q h2 hside.2.2 hq E M' w' _ hb hst')
        · cases h

theorem TL_all {base : Nat} {ops : Array Oper} {l : List Oper} {Q : DX → DS → Prop} {s : DS} (hs : List Hint) (s' : DS) (side : Prop) (h : dexec P base ops l hs s = some (side, s')) (hside : side) (hq : Q .normal s') : TL P base ops l Q s :=
  dexec_sound l hs s s' side h hside hq

/-! ### boxes that become immutable data -/
def C.freeze (id : Nat) (od : Option D) (rd : Option (List D)) : C → C
  | .own i => match i == id with
    | true => match od with
      | some d => .dat d
      | none => .junk
    | false => .own i
  | .ref i o => match i == id with
    | true => match rd with
      | some ds => .dat (.ptr (ds.drop o))
      | none => .junk
    | false => .ref i o
  | .rref i k o => match i == id with
    | true => .junk
    | false => .rref i k o
  | .fn f caps => match caps.any (fun c => match c with | .inl i => i == id | .inr _ => false) with
    | false => .fn f caps
    | true => match rd with
      | some ds => .fn f (caps.map fun c => match c with | .inl i => (match i == id with | true => .inr (.ptr ds) | false => .inl i) | .inr d => .inr d)
      | none => .junk
  | c => c

def LV.freeze (id : Nat) (od : Option D) (rd : Option (List D)) : LV → LV
  | .one c => .one (c.freeze id od rd)
  | .agg cs => .agg (cs.map (C.freeze id od rd))
  | .tup vs => .tup (vs.map fun p => (p.1, p.2.map (C.freeze id od rd)))

def Box.freeze (id : Nat) (od : Option D) (rd : Option (List D)) : Box → Box
  | .var cs => .var (cs.map (C.freeze id od rd))
  | b => b

def boxData : Box → Option D × Option (List D)
  | .row _ sz es => (some (.sl sz es), none)
  | .var cs => (none, allDat cs)
  | .map _ _ _ _ => (none, none)

def DS.freeze (id : Nat) (s : DS) : DS :=
  match s.bx.lookup id with
  | some b => { sl := s.sl.map (LV.freeze id (boxData b).1 (boxData b).2), bx := (s.bx.filter fun p => !(p.1 == id)).map fun p => (p.1, p.2.freeze id (boxData b).1 (boxData b).2) }
  | none => s

theorem C.freeze_rel {id : Nat} {od : Option D} {rd : Option (List D)} {c : C} {v : Value} (h1 : ∀ d, od = some d → RelD w A d (M.rv id)) (h2 : ∀ ds, rd = some ds → ∀ o, RelD w A (.ptr (ds.drop o)) (.pointer (some ⟨M.blk id, o, none⟩))) (h : C.rel w A M c v) :
    C.rel w A M (c.freeze id od rd) v := by
  cases c with
  | own i =>
    simp only [C.freeze]
    split
    · rename_i hi
      have : i = id := by simpa using hi
      subst this
      split
      · rename_i d
        simp only [C.rel] at h
        subst h
        exact h1 d rfl
      · trivial
    · exact h
  | ref i o =>
    simp only [C.freeze]
    split
    · rename_i hi
      have : i = id := by simpa using hi
      subst this
      split
      · rename_i ds
        simp only [C.rel] at h
        subst h
        exact h2 ds rfl o
      · trivial
    · exact h
  | rref i k o =>
    simp only [C.freeze]
    split
    · trivial
    · exact h
  | fn f caps =>
    simp only [C.freeze]
    split
    · exact h
    · split
      · rename_i ds
        obtain ⟨arr, g1, g2, g3⟩ := h
        refine ⟨arr, g1, by simp [g2], fun j c hj => ?_⟩
        simp only [List.getElem?_map, Option.map_eq_some_iff] at hj
        obtain ⟨c', hc', rfl⟩ := hj
        obtain ⟨u, hu, hr⟩ := g3 j c' hc'
        refine ⟨u, hu, ?_⟩
        cases c' with
        | inl i =>
          simp only
          split
          · rename_i hi
            have : i = id := by simpa using hi
            subst this
            simp only [capRel] at hr ⊢
            subst hr
            exact h2 ds rfl 0
          · exact hr
        | inr d => exact hr
      · trivial
  | dat d => exact h
  | junk => trivial

theorem cells_freeze {id : Nat} {od : Option D} {rd : Option (List D)} {cs : List C} {arr : Array Value} (h1 : ∀ d, od = some d → RelD w A d (M.rv id)) (h2 : ∀ ds, rd = some ds → ∀ o, RelD w A (.ptr (ds.drop o)) (.pointer (some ⟨M.blk id, o, none⟩))) (h : cellsRel w A M cs arr) :
    cellsRel w A M (cs.map (C.freeze id od rd)) arr := by
  refine ⟨by simp [h.1], fun j c hj => ?_⟩
  simp only [List.getElem?_map, Option.map_eq_some_iff] at hj
  obtain ⟨c', hc', rfl⟩ := hj
  obtain ⟨u, hu, hr⟩ := h.2 j c' hc'
  exact ⟨u, hu, C.freeze_rel h1 h2 hr⟩

theorem LV.freeze_rel {id : Nat} {od : Option D} {rd : Option (List D)} {l : LV} {v : Value} (h1 : ∀ d, od = some d → RelD w A d (M.rv id)) (h2 : ∀ ds, rd = some ds → ∀ o, RelD w A (.ptr (ds.drop o)) (.pointer (some ⟨M.blk id, o, none⟩))) (h : LV.rel w A M l v) :
    LV.rel w A M (l.freeze id od rd) v := by
  cases l with
  | one c => exact C.freeze_rel h1 h2 h
  | agg cs => exact let ⟨arr, g1, g2⟩ := h; ⟨arr, g1, cells_freeze h1 h2 g2⟩
  | tup ps =>
    obtain ⟨arr, g1, g2, g3⟩ := h
    refine ⟨arr, g1, by simp [g2], fun j p hj => ?_⟩
    simp only [List.getElem?_map, Option.map_eq_some_iff] at hj
    obtain ⟨q, hq, rfl⟩ := hj
    obtain ⟨u, hu, hr⟩ := g3 j q hq
    refine ⟨u, hu, ?_⟩
    obtain ⟨b, cs⟩ := q
    cases b with
    | true => exact let ⟨arr, g1, g2⟩ := hr; ⟨arr, g1, cells_freeze h1 h2 g2⟩
    | false =>
      match cs, hr with
      | [], _ => trivial
      | [c], hr => exact C.freeze_rel h1 h2 hr
      | _ :: _ :: _, _ => trivial

theorem boxBlk_freeze {id : Nat} {od : Option D} {rd : Option (List D)} {i : Nat} {b : Box} : boxBlk M (i, b.freeze id od rd) = boxBlk M (i, b) := by
  cases b <;> rfl

/-- A box becomes immutable data. -/
theorem DS.le_freeze (s : DS) (id : Nat) : s.Le (s.freeze id) := by
  intro E M w a h
  unfold DS.freeze
  split
  case h_2 => exact ⟨M, h⟩
  rename_i b hl
  have hm := lookup_mem hl
  refine ⟨M, ?_⟩
  generalize hod : (boxData b).1 = od
  generalize hrd : (boxData b).2 = rd
  let bx' := (s.bx.filter fun p => !(p.1 == id)).map fun p => (p.1, p.2.freeze id od rd)
  have hmem : ∀ p ∈ bx', p.1 ≠ id ∧ ∃ b', (p.1, b') ∈ s.bx ∧ p.2 = b'.freeze id od rd := by
    intro p hp
    simp only [bx', List.mem_map, List.mem_filter] at hp
    obtain ⟨q, ⟨hq, hne⟩, rfl⟩ := hp
    exact ⟨by simpa using hne, q.2, hq, rfl⟩
  have hblk : ∀ p ∈ bx', ∀ k, boxBlk M p = some k → ∃ q ∈ s.bx, boxBlk M q = some k ∧ q.1 = p.1 := by
    intro p hp k hk
    obtain ⟨hne, b', hb', he⟩ := hmem p hp
    obtain ⟨i, bb⟩ := p
    simp only at he
    subst he
    rw [boxBlk_freeze] at hk
    exact ⟨_, hb', hk, rfl⟩
  have hsub : ∀ k, Av E.A0 M bx' k → Av E.A0 M s.bx k ∧ boxBlk M (id, b) ≠ some k := by
    rintro k (hk | ⟨p, hp, hk⟩)
    · refine ⟨.inl hk, fun hb => ?_⟩
      have h1 := (h.boxes.new _ hm k hb).1
      have h2 := h.boxes.foreign k hk
      rcases h1 with h1 | h1
      · exact h2.2 h1
      · have := h2.1; omega
    · obtain ⟨q, hq, hqk, hqi⟩ := hblk p hp k hk
      refine ⟨.inr ⟨q, hq, hqk⟩, fun hb => ?_⟩
      have := blks_inj h.boxes.blks q hq _ hm k hqk hb
      rw [this] at hqi
      exact (hmem p hp).1 hqi.symm
  have hk : Keeps w (Av E.A0 M s.bx) w (Av E.A0 M bx') := Keeps.sub fun k hk => (hsub k hk).1
  have h1 : ∀ d, od = some d → RelD w (Av E.A0 M bx') d (M.rv id) := by
    intro d hd
    cases b with
    | var cs => simp [boxData] at hod; rw [← hod] at hd; cases hd
    | map Q k e m => simp [boxData] at hod; rw [← hod] at hd; cases hd
    | row e sz es =>
      simp only [boxData] at hod
      rw [← hod] at hd
      cases hd
      exact row_rel _ (fun k hk => ⟨(hsub k hk).1, by have := (hsub k hk).2; simpa [boxBlk] using this⟩) (h.boxes.ok id _ hm)
  have h2 : ∀ ds, rd = some ds → ∀ o, RelD w (Av E.A0 M bx') (.ptr (ds.drop o)) (.pointer (some ⟨M.blk id, o, none⟩)) := by
    intro ds hds o
    cases b with
    | row e sz es => simp [boxData] at hrd; rw [← hrd] at hds; cases hds
    | map Q k e m => simp [boxData] at hrd; rw [← hrd] at hds; cases hds
    | var cs =>
      simp only [boxData] at hrd
      rw [← hrd] at hds
      have hcs := allDat_map cs ds hds
      obtain ⟨arr, T, hg, hc⟩ := h.boxes.ok id _ hm
      have hnot : ¬ Av E.A0 M bx' (M.blk id) := fun hb => (hsub _ hb).2 rfl
      have hcell : ∀ (j : Nat) (c : D), ds[j]? = some c → ∃ u, arr[j]? = some u ∧ RelD w (Av E.A0 M bx') c u := by
        intro j c hj
        obtain ⟨u, hu, hr⟩ := hc.2 j (.dat c) (by rw [hcs, List.getElem?_map, hj]; rfl)
        exact ⟨u, hu, RelD.mono hk hr⟩
      refine .ptr _ (M.blk id) o (fun j => arr.getD (o + j) undef) (fun j c hj => ?_) (fun j c hj => ?_)
      · rw [List.getElem?_drop] at hj
        obtain ⟨u, hu, _⟩ := hcell _ c hj
        exact ⟨hnot, by rw [cell_of_row w _ _ arr T (0, 0) hg]; simp [hu]⟩
      · rw [List.getElem?_drop] at hj
        obtain ⟨u, hu, hr⟩ := hcell _ c hj
        simpa [hu] using hr
  refine ⟨h.defers, by simp [h.size], fun t l hl' => ?_, ?_⟩
  · simp only [List.getElem?_map, Option.map_eq_some_iff] at hl'
    obtain ⟨l', hl2, rfl⟩ := hl'
    exact LV.freeze_rel h1 h2 ((h.slots t l' hl2).mono hk)
  · refine {
      ok := fun i b' hb => ?_
      ids := ?_
      blks := ?_
      new := fun p hp k hpk => ?_
      foreign := h.boxes.foreign
      frame := h.boxes.frame
      old := fun p hp hlt => ?_ }
    · obtain ⟨hne, b0, hb0, he⟩ := hmem _ hb
      simp only at he
      subst he
      have hok := (h.boxes.ok i b0 hb0).mono hk (fun _ _ => rfl)
      cases b0 with
      | var cs =>
        obtain ⟨arr, T, g1, g2⟩ := hok
        exact ⟨arr, T, g1, cells_freeze h1 h2 g2⟩
      | row e sz es => exact hok
      | map Q k e m => exact hok
    · have : bx'.map (·.1) = (s.bx.filter fun p => !(p.1 == id)).map (·.1) := by simp [bx', List.map_map]
      show (bx'.map (·.1)).Nodup
      rw [this]
      exact (h.boxes.ids.sublist ((List.filter_sublist).map _))
    · have : bx'.filterMap (boxBlk M) = (s.bx.filter fun p => !(p.1 == id)).filterMap (boxBlk M) := by
        simp only [bx', List.filterMap_map]
        refine filterMap_congr' fun p _ => ?_
        show boxBlk M (p.1, p.2.freeze id od rd) = boxBlk M p
        rw [boxBlk_freeze]
      show (bx'.filterMap (boxBlk M)).Nodup
      rw [this]
      exact h.boxes.blks.sublist ((List.filter_sublist).filterMap _)
    · obtain ⟨q, hq, hqk, _⟩ := hblk p hp k hpk
      exact h.boxes.new q hq k hqk
    · obtain ⟨hne, b0, hb0, he⟩ := hmem p hp
      exact h.boxes.old (p.1, b0) hb0 hlt
end
end Go.DL

/-
  The data-level framework, part q: states written sparsely, and the rules as a program types them. Generic in the program; no condition.
-/
set_option linter.unusedVariables false
set_option linter.unusedSimpArgs false
namespace Go.DL
open Go.RowKit

abbrev J : LV := .one .junk
abbrev dt (d : D) : LV := .one (.dat d)
abbrev I (n : Int) : D := .int .i64 n
abbrev B (b : Bool) : D := .bool b
abbrev dI (n : Int) : LV := .one (.dat (.int .i64 n))
abbrev dB (b : Bool) : LV := .one (.dat (.bool b))
abbrev cI (n : Int) : C := .dat (.int .i64 n)
abbrev cB (b : Bool) : C := .dat (.bool b)
abbrev nilS : D := .con (.slice none 0 0)

/-- A state of n slots, of which those that are listed hold something. -/
def mk (n : Nat) (l : List (Nat × LV)) (bx : List (Nat × Box)) : DS := ⟨(List.range n).map fun i => (l.lookup i).getD J, bx⟩

def maskL (live : List Nat) : List LV → Nat → List LV
  | [], _ => []
  | l :: ls, i => (match live.contains i with | true => l | false => J) :: maskL live ls (i + 1)

def DS.prune (live dead : List Nat) (s : DS) : DS := dead.foldl (fun s i => s.drop i) ⟨maskL live s.sl 0, s.bx⟩

theorem maskL_length (live : List Nat) : ∀ (ls : List LV) (i : Nat), (maskL live ls i).length = ls.length
  | [], _ => rfl
  | _ :: ls, i => by simp [maskL, maskL_length live ls]

theorem maskL_get (live : List Nat) : ∀ (ls : List LV) (i t : Nat) (l : LV), (maskL live ls i)[t]? = some l → l = J ∨ ls[t]? = some l
  | [], _, t, l, h => by simp [maskL] at h
  | x :: ls, i, 0, l, h => by
    simp only [maskL, List.getElem?_cons_zero, Option.some.injEq] at h
    split at h
    · exact .inr (by simpa using h)
    · exact .inl h.symm
  | x :: ls, i, t + 1, l, h => by simpa using maskL_get live ls (i + 1) t l (by simpa [maskL] using h)

theorem DS.le_prune (s : DS) (live dead : List Nat) : s.Le (s.prune live dead) := by
  have h1 : s.Le ⟨maskL live s.sl 0, s.bx⟩ := by
    intro E M w a h
    refine ⟨M, h.defers, by rw [h.size]; exact (maskL_length _ _ _).symm, fun t l hl => ?_, h.boxes⟩
    rcases maskL_get _ _ _ _ _ hl with rfl | hl'
    · trivial
    · exact h.slots t l hl'
  unfold DS.prune
  generalize (⟨maskL live s.sl 0, s.bx⟩ : DS) = s1 at h1 ⊢
  induction dead generalizing s1 with
  | nil => exact h1
  | cons i l ih => exact ih _ (h1.trans (DS.le_drop s1 i))

theorem DS.le_of_eq {s s' : DS} (h : s = s') : s.Le s' := h ▸ DS.Le.refl s

/-- Freezing boxes, one after the other, and then forgetting. -/
def DS.ice (ids : List Nat) (s : DS) : DS := ids.foldl (fun s i => s.freeze i) s

theorem DS.le_ice (s : DS) (ids : List Nat) : s.Le (s.ice ids) := by
  unfold DS.ice
  have : ∀ (ids : List Nat) (s1 : DS), s.Le s1 → s.Le (ids.foldl (fun s i => s.freeze i) s1) := by
    intro ids
    induction ids with
    | nil => exact fun _ h => h
    | cons i l ih => exact fun s1 h => ih _ (h.trans (DS.le_freeze s1 i))
  exact this ids s (DS.Le.refl s)

section
variable {P : Program} {base id : Nat} {l : List Oper} {Q : DX → DS → Prop} {s : DS}

/-- The way through a region, with what is kept behind it. -/
def way (P : Program) (base : Nat) (l : List Oper) (hs : List Hint) (live dead : List Nat) (s : DS) : Option (Prop × DS) :=
  (dexec P base l.toArray l hs s).map fun r => (r.1, r.2.prune live dead)

def wayD (P : Program) (base : Nat) (l : List Oper) (n : Nat) (hs : List Hint) (live dead : List Nat) (s : DS) : Option (Prop × DS) :=
  (dexecDraw P base l n hs s).map fun r => (r.1, r.2.prune live dead)

def QLe (Q : DX → DS → Prop) : Prop := ∀ x s s', s.Le s' → Q x s' → Q x s

theorem T_reg (hs : List Hint) (live dead : List Nat) (s' : DS) (side : Prop) (h : way P base l hs live dead s = some (side, s')) (hside : side) {y : Code} (hq : T P base y Q s') : T P base (.seq (.region id l.toArray false) y) Q s := by
  unfold way at h
  simp only [Option.map_eq_some_iff, Prod.mk.injEq] at h
  obtain ⟨⟨sd, s1⟩, h1, rfl, rfl⟩ := h
  exact T_seq (T_region hs s1 sd h1 hside (T_le (DS.le_prune s1 live dead) hq))

theorem T_regD (n : Nat) (hs : List Hint) (live dead : List Nat) (s' : DS) (side : Prop) (hm : P.follows .mixedOrders = true) (hok : drawOk l.toArray n = true) (h : wayD P base l n hs live dead s = some (side, s')) (hside : side) {y : Code} (hq : T P base y Q s') : T P base (.seq (.region id l.toArray true) y) Q s := by
  unfold wayD at h
  simp only [Option.map_eq_some_iff, Prod.mk.injEq] at h
  obtain ⟨⟨sd, s1⟩, h1, rfl, rfl⟩ := h
  exact T_seq (T_draw n hs s1 sd hm hok h1 hside (T_le (DS.le_prune s1 live dead) hq))

/-- The last region of a piece. -/
theorem T_regE (hs : List Hint) (s' : DS) (side : Prop) (h : dexec P base l.toArray l hs s = some (side, s')) (hside : side) (hq : Q .normal s') : T P base (.region id l.toArray false) Q s := T_region hs s' side h hside hq

theorem T_regDE (n : Nat) (hs : List Hint) (s' : DS) (side : Prop) (hm : P.follows .mixedOrders = true) (hok : drawOk l.toArray n = true) (h : dexecDraw P base l n hs s = some (side, s')) (hside : side) (hq : Q .normal s') : T P base (.region id l.toArray true) Q s := T_draw n hs s' side hm hok h hside hq

/-- The state is written otherwise, some boxes frozen, and the rest forgotten. -/
theorem T_turn {c : Code} (ice live dead : List Nat) (s' : DS) (h : (s.ice ice).prune live dead = s') (hq : T P base c Q s') : T P base c Q s :=
  T_le ((DS.le_ice s ice).trans ((DS.le_prune _ live dead).trans (DS.le_of_eq h))) hq

theorem le_turn (ice live dead : List Nat) {s s' : DS} (h : (s.ice ice).prune live dead = s') : s.Le s' :=
  (DS.le_ice s ice).trans ((DS.le_prune _ live dead).trans (DS.le_of_eq h))

theorem ret_here {fn : Func} {d : D} (ls : List LV) (h : dres P s fn.results.toList = some ls) (hf : resFit s.bx ls d) : retPost P fn d .ret s := ⟨ls, h, hf⟩
end

theorem not_f {b : Bool} (h : (!b) = false) : b = true := by cases b <;> simp_all
theorem not_t {b : Bool} (h : (!b) = true) : b = false := by cases b <;> simp_all
theorem bne_f {x y : Int} (h : (x != y) = false) : x = y := by simpa using h

theorem i64_wrap {x : Int} (h1 : -9223372036854775808 ≤ x) (h2 : x ≤ 9223372036854775807) : IntKind.i64.wrap x = x := by
  rw [IntKind.wrap_i64]; omega

end Go.DL

/-
  The data-level framework, part r: regions in parts, with calls that are entered and tests that data do not decide. Generic in the program; no condition.
-/
set_option linter.unusedVariables false
set_option linter.unusedSimpArgs false
namespace Go.DL
open Go.RowKit

section
variable {P : Program} {base id : Nat} {Q : DX → DS → Prop} {s : DS}

/-- Some operations of a region are run at once; what follows is cut off the list. -/
theorem TL_part {ops : Array Oper} {l : List Oper} (n : Nat) (hs : List Hint) (s' : DS) (side : Prop) (h : dexec P base ops (l.take n) hs s = some (side, s')) (hside : side) {l2 : List Oper} (hl : l.drop n = l2) (hq : TL P base ops l2 Q s') : TL P base ops l Q s := by
  subst hl
  have := TL_append (P := P) (base := base) (Q := Q) (ops := ops) (l.take n) (l.drop n) hs s s' side h hside hq
  rwa [List.take_append_drop] at this

theorem TL_turn {ops : Array Oper} {l : List Oper} (ice live dead : List Nat) (s' : DS) (h : (s.ice ice).prune live dead = s') (hq : TL P base ops l Q s') : TL P base ops l Q s :=
  TL_le ((DS.le_ice s ice).trans ((DS.le_prune _ live dead).trans (DS.le_of_eq h))) hq

theorem T_parts {l : List Oper} (hq : TL P base l.toArray l Q s) : T P base (.region id l.toArray false) Q s :=
  fun E M w a hb hst => wp_region_lit (hq E M w a hb hst)

theorem TL_nilQ {ops : Array Oper} (h : Q .normal s) : TL P base ops [] Q s := TL_all [] s True rfl trivial h

/-- The test of a slice against nil, where its data do not tell: both ways are to be walked; if it is nil it is empty. -/
theorem TL_nil {ops : Array Oper} {o : Oper} {l : List Oper} {t t2 : TypeId} {x : Operand} {sz : Nat} {es : List D}
    (ho : o.op = .binOp .eql t x (.const (.slice none 0 0)) t2) (hg : o.guard = none) (ht : ∃ e, P.underlying t = some (.slice e)) (hx : s.ev x = .one (.dat (.sl sz es)))
    (h : ∀ b : Bool, (b = true → es = []) → TL P base ops l Q (s.put o.dst (dt (.bool b)))) : TL P base ops (o :: l) Q s := by
  intro E M w a hE hst
  refine wpList_plain hg fun K hK => ?_
  have hr := ev_rel hst.size hst.slots x
  rw [hx] at hr
  obtain ⟨e, hu⟩ := ht
  have key : ∃ ad n c, a.eval x = .slice ad n c ∧ (ad.isNone = true → es = []) := by
    generalize a.eval x = v at hr ⊢
    simp only [LV.rel, C.rel] at hr
    cases hr with
    | sl _ _ b off cap vs => exact ⟨_, _, _, rfl, fun h => by simp at h⟩
    | sl0 _ ad c _ => exact ⟨ad, 0, c, rfl, fun _ => rfl⟩
  obtain ⟨ad, n, c, hv, hn⟩ := key
  refine PStep.of_run (lv := dt (.bool ad.isNone)) (v := .bool ad.isNone) (A := Av E.A0 M s.bx) (M := M) ?_ (RelD.bool _) K _ fun v w' hw hl => ?_
  · have e1 : a.eval (.const (.slice none 0 0)) = .slice none 0 0 := rfl
    have hg' := run_eqGuard_plain (P := P) (w := w) .eql t x (.const (.slice none 0 0)) (.slice ad n c) (.slice none 0 0) (by simp) (by simp)
    rw [execOp, ho]
    simp only [hv, e1, Sem.run_bind, hg', Result.andThen_ok]
    simp [binOp, Op.equal, Op.maxDepth, equal_nil 9999 t e hu]
  · exact hK _ _ (h ad.isNone hn E M w' _ hE ((hst.below hw).put o.dst hl))
end
theorem u64_wrap {x : Int} (h1 : 0 ≤ x) (h2 : x ≤ 18446744073709551615) : IntKind.u64.wrap x = x := by
  simp only [IntKind.wrap, IntKind.bits, IntKind.signed]; simp; omega
end Go.DL

/-
  The data-level framework, part s: a nil slice that is to grow is taken as an empty row of the call's own. Generic in the program; no condition.
-/
set_option linter.unusedVariables false
set_option linter.unusedSimpArgs false
namespace Go.DL
open Go.RowKit

def DS.ownSlot (t id : Nat) (e : TypeId) (sz : Nat) (s : DS) : Option DS :=
  match (s.drop id).sl[t]? with
  | some (.one (.dat (.con (.slice none 0 0)))) => some { ((s.drop id).push id (.row e sz [])) with sl := (s.drop id).sl.set t (.one (.own id)) }
  | _ => none

def DS.ownCell (i off id : Nat) (e : TypeId) (sz : Nat) (s : DS) : Option DS :=
  match ((s.drop id).push id (.row e sz [])).bx.lookup i with
  | some (.var cs) => match cs[off]? with
    | some (.dat (.con (.slice none 0 0))) => some (((s.drop id).push id (.row e sz [])).setBox i (.var (cs.set off (.own id))))
    | _ => none
  | _ => none

section
variable {P : Program} {w : World} {M : BMap} {base : Nat} {Q : DX → DS → Prop} {s : DS}

theorem St.pushNil {E : Env} {a : Act} (h : St E M w a s) (id : Nat) (e : TypeId) (sz : Nat) (hb : E.base ≤ id) :
    St E (M.upd id 0 (.slice none 0 0) sz) w a ((s.drop id).push id (.row e sz [])) := by
  refine StA.push (h.toA.drop id 0 (.slice none 0 0) sz) drop_free hb (row := none) ⟨rfl, rfl, rfl, Nat.le_refl _, fun _ _ _ => rfl⟩ (fun k hk => by cases hk) (fun b hb => Av_drop hb) (fun k hk => ?_) fun A' _ => ?_
  · simp [boxBlk, BMap.upd, Value.ownBlock] at hk
  · refine ⟨[], ⟨by simp, .inl ⟨by simp [BMap.upd], rfl⟩⟩, by simp, by simp [BMap.upd], fun j c hj => by simp [flat] at hj, fun k hk => by simp [BMap.upd, Value.ownBlock] at hk⟩

theorem nil_rel {A : Nat → Prop} {v : Value} (h : RelD w A (.con (.slice none 0 0)) v) : v = .slice none 0 0 := by cases h; rfl

theorem T_ownSlot {c : Code} (t id : Nat) (e : TypeId) (sz : Nat) (s' : DS) (h : s.ownSlot t id e sz = some s') (hb : Nat.ble base id = true) (hq : T P base c Q s') : T P base c Q s := by
  intro E M w a hE hst
  unfold DS.ownSlot at h
  split at h
  · rename_i hs
    simp only [Option.some.injEq] at h
    subst h
    have h1 := hst.pushNil id e sz (by rw [hE]; exact Nat.le_of_ble_eq_true hb)
    refine hq E _ w a hE ⟨h1.defers, by rw [h1.size]; simp [DS.push], fun t' l hl => ?_, h1.boxes⟩
    simp only [List.getElem?_set] at hl
    split at hl
    · rename_i he
      subst he
      split at hl
      · cases hl
        have h2 := h1.slots t _ hs
        simp only [LV.rel, C.rel] at h2 ⊢
        rw [nil_rel h2]
        simp [BMap.upd]
      · cases hl
    · exact h1.slots t' l hl
  · cases h

theorem T_ownCell {c : Code} (i off id : Nat) (e : TypeId) (sz : Nat) (s' : DS) (h : s.ownCell i off id e sz = some s') (hb : Nat.ble base id = true) (hq : T P base c Q s') : T P base c Q s := by
  intro E M w a hE hst
  unfold DS.ownCell at h
  split at h
  · rename_i cs hl
    split at h
    · rename_i hc
      simp only [Option.some.injEq] at h
      subst h
      have h1 := hst.pushNil id e sz (by rw [hE]; exact Nat.le_of_ble_eq_true hb)
      have hm := lookup_mem hl
      refine hq E _ w a hE (h1.setBox (b := .var (cs.set off (.own id))) hm rfl ⟨rfl, rfl, rfl, Nat.le_refl _, fun _ _ _ => rfl⟩ fun A' hA' => ?_)
      obtain ⟨arr, T, hg, hcr⟩ := h1.boxes.ok i _ hm
      refine ⟨arr, T, hg, by rw [hcr.1, List.length_set], fun j c hj => ?_⟩
      rw [List.getElem?_set] at hj
      split at hj
      · rename_i he
        subst he
        split at hj
        · cases hj
          obtain ⟨u, hu, hr⟩ := hcr.2 off _ hc
          simp only [C.rel] at hr
          exact ⟨u, hu, by rw [nil_rel hr]; simp [C.rel, BMap.upd]⟩
        · cases hj
      · obtain ⟨u, hu, hr⟩ := hcr.2 j c hj
        exact ⟨u, hu, hr.mono hA'⟩
    · cases h
  · cases h
end
end Go.DL

/-
  The data-level framework, part t: regions that draw their order and hold one allocation, which may come at any time. Generic in the program; no condition.
-/
set_option linter.unusedVariables false
set_option linter.unusedSimpArgs false
namespace Go.DL
open Go.RowKit

/-- The operations that only make values, and at place m one that makes a box with number id. -/
def pexecA (P : Program) (ops : Array Oper) (m : Nat) (lv0 : LV) : List Oper → List Hint → Nat → DS → Option (Prop × List LV × DS)
  | [], _, _, s => some (True, [], s)
  | o :: os, hs, k, s =>
    match k == m with
    | true => match pexecA P ops m lv0 os hs.tail (k + 1) (s.put o.dst lv0) with
      | some (q, vs, s') => some (q, lv0 :: vs, s')
      | none => none
    | false => match wantB ops o s (hs.headD {}).g with
      | none => none
      | some (p, false) => match pexecA P ops m lv0 os hs.tail (k + 1) (s.put o.dst UD) with
        | some (q, vs, s') => some (p ∧ q, UD :: vs, s')
        | none => none
      | some (p, true) => match pval P s.ev s.bx (hs.headD {}).d o with
        | none => none
        | some (r, lv) => match pexecA P ops m lv0 os hs.tail (k + 1) (s.put o.dst lv) with
          | some (q, vs, s') => some (p ∧ r ∧ q, lv :: vs, s')
          | none => none

def fixVals (ops : Array Oper) (m id : Nat) : Nat → List LV → List LV
  | _, [] => []
  | k, v :: vs => (match k == m || Region.waitsFor .any ops k m with | true => v | false => v.scrub id) :: fixVals ops m id (k + 1) vs

theorem fixVals_get {ops : Array Oper} {m id : Nat} : ∀ {vs : List LV} {k : Nat}, fixVals ops m id k vs = vs → ∀ j v, vs[j]? = some v → (k + j = m ∨ Region.waitsFor .any ops (k + j) m = true) ∨ v.scrub id = v
  | [], _, _, j, v, h => by simp at h
  | x :: xs, k, h, 0, v, hv => by
    simp only [List.getElem?_cons_zero, Option.some.injEq] at hv
    subst hv
    simp only [fixVals, List.cons.injEq] at h
    have h1 := h.1
    split at h1
    · rename_i hc
      simp only [Bool.or_eq_true, beq_iff_eq] at hc
      exact .inl hc
    · exact .inr h1
  | x :: xs, k, h, j + 1, v, hv => by
    simp only [fixVals, List.cons.injEq] at h
    have := fixVals_get h.2 j v (by simpa using hv)
    rw [show k + (j + 1) = k + 1 + j by omega]
    exact this

section
variable {P : Program} {w : World} {A : Nat → Prop} {M : BMap}

theorem C.scrub_scrub (id : Nat) (c : C) : (c.scrub id).scrub id = c.scrub id := by
  cases c with
  | own i => cases h : (i == id) <;> simp [C.scrub, h]
  | ref i o => cases h : (i == id) <;> simp [C.scrub, h]
  | rref i k o => cases h : (i == id) <;> simp [C.scrub, h]
  | fn f caps =>
    have e : C.scrub id (.fn f caps) = .junk ∨ C.scrub id (.fn f caps) = .fn f caps := by
      simp only [C.scrub]
      split
      · exact .inl rfl
      · exact .inr rfl
    rcases e with e | e
    · rw [e]; rfl
    · rw [e, e]
  | _ => rfl
theorem LV.scrub_scrub (id : Nat) (l : LV) : (l.scrub id).scrub id = l.scrub id := by
  cases l <;> simp [LV.scrub, C.scrub_scrub, Function.comp_def]
theorem Box.scrub_scrub (id : Nat) (b : Box) : (b.scrub id).scrub id = b.scrub id := by
  cases b <;> simp [Box.scrub, C.scrub_scrub, Function.comp_def]
theorem DS.drop_bx_drop (id : Nat) (s : DS) (l : List LV) : (DS.drop id ⟨l, (s.drop id).bx⟩).bx = (s.drop id).bx := by
  simp only [DS.drop, List.filter_map, List.map_map]
  have : (s.bx.filter fun p => !(p.1 == id)).filter ((fun p => !(p.1 == id)) ∘ fun p => (p.1, p.2.scrub id)) = s.bx.filter fun p => !(p.1 == id) := by
    rw [List.filter_filter]
    refine List.filter_congr fun p _ => ?_
    simp
  rw [this]
  refine List.map_congr_left fun p _ => ?_
  simp [Box.scrub_scrub]

def dexecDrawA (P : Program) (base : Nat) (l : List Oper) (n m d : Nat) (t : TypeId) (hs : List Hint) (s : DS) : Option (Prop × List LV × List LV × DS) :=
  match zeroC P t with
  | none => none
  | some cs => match pexecA P l.toArray m (.one (.ref (base + d) 0)) (l.take n) hs 0 (s.drop (base + d)) with
    | none => none
    | some (p, vs, _) => match pexecA P l.toArray m (.one (.ref (base + d) 0)) (l.take n) hs 0 ((s.drop (base + d)).push (base + d) (.var cs)) with
      | none => none
      | some (p', vs', s1) => match dexec P base l.toArray (l.drop n) (hs.drop n) s1 with
        | none => none
        | some (q, s2) => some (p ∧ p' ∧ q, vs, vs', s2)

theorem view_cases {dst : Nat → Option Tmp} {v : Nat → LV} {sl : List LV} {X : Nat → Bool} {t : Tmp} {lv : LV} : ∀ n, view dst v sl X n t = some lv → sl[t]? = some lv ∨ ∃ j, j < n ∧ X j = true ∧ lv = v j
  | 0, h => .inl h
  | n + 1, h => by
    simp only [view] at h
    split at h
    · rename_i hc
      exact .inr ⟨n, by omega, hc.1, (Option.some.inj h).symm⟩
    · rcases view_cases n h with h | ⟨j, h1, h2, h3⟩
      · exact .inl h
      · exact .inr ⟨j, by omega, h2, h3⟩

theorem view_lt {dst : Nat → Option Tmp} {v : Nat → LV} {sl : List LV} {X : Nat → Bool} {t : Tmp} {lv : LV} : ∀ n, view dst v sl X n t = some lv → t < sl.length
  | 0, h => (List.getElem?_eq_some_iff.1 h).1
  | n + 1, h => by
    simp only [view] at h
    split at h
    · rename_i hc; exact hc.2.2
    · exact view_lt n h

theorem st_view {l : List Oper} {n : Nat} {v : Nat → LV} {st : Nat → DS} (h : ∀ i, i < n → ∃ o, l[i]? = some o ∧ st (i + 1) = (st i).put o.dst (v i)) :
    ∀ i, i ≤ n → (st i).sl.length = (st 0).sl.length ∧ (st i).bx = (st 0).bx ∧ ∀ t, (st i).sl[t]? = view (fun i => (l[i]?).bind (·.dst)) v (st 0).sl (fun _ => true) i t := by
  intro i
  induction i with
  | zero => intro _; exact ⟨rfl, rfl, fun t => rfl⟩
  | succ i ih =>
    intro hi
    obtain ⟨h1, h2, h3⟩ := ih (by omega)
    obtain ⟨o, ho, he⟩ := h i (by omega)
    rw [he]
    refine ⟨by rw [put_len]; exact h1, by rw [put_bx]; exact h2, fun t => ?_⟩
    rw [put_get, h1, h3]
    simp [view, ho]

def wayDA (P : Program) (base : Nat) (l : List Oper) (n m d : Nat) (t : TypeId) (hs : List Hint) (live dead : List Nat) (s : DS) : Option (Prop × DS) :=
  (dexecDrawA P base l n m d t hs s).map fun r => (r.1, r.2.2.2.prune live dead)

end
end Go.DL

/-
  The plain data of chapter 39, and how it is laid as data of the framework; the plain functions that the code computes.
-/
set_option linter.unusedVariables false
set_option linter.unusedSimpArgs false
namespace Go.Proofs.Ytpkbecaailhhmaa
open Go.DL
structure Pay where
  c : Int
  a : Int
  deriving DecidableEq
structure Hold where
  t : Int
  p : Int
  ps : List Pay
  s : Int
  deriving DecidableEq
structure House where
  b : List Pay
  h : List Hold
  deriving DecidableEq
def encI (n : Int) : D := .int .i64 n
def encPay (p : Pay) : D := .agg [.int .i64 p.c, .int .i64 p.a]
def encHold (x : Hold) : D := .agg [.int .i64 x.t, .int .i64 x.p, .sl 2 (x.ps.map encPay), .int .i64 x.s]
theorem encI_one (l : List Int) : cellsOne (l.map encI) := by
  intro d hd c hc; obtain ⟨x, _, rfl⟩ := List.mem_map.1 hd; simp [encI, D.cells] at hc; subst hc; rfl
theorem encPay_one (l : List Pay) : cellsOne (l.map encPay) := by
  intro d hd c hc; obtain ⟨x, _, rfl⟩ := List.mem_map.1 hd; simp [encPay, D.cells] at hc; rcases hc with rfl | rfl <;> rfl
theorem encHold_one (l : List Hold) : cellsOne (l.map encHold) := by
  intro d hd c hc; obtain ⟨x, _, rfl⟩ := List.mem_map.1 hd; simp [encHold, D.cells] at hc; rcases hc with rfl | rfl | rfl | rfl <;> rfl

theorem drop_cons {α : Type} {l : List α} {k : Nat} {p : α} (h : l[k]? = some p) : l.drop k = p :: l.drop (k + 1) := by
  obtain ⟨hlt, rfl⟩ := List.getElem?_eq_some_iff.1 h
  exact List.drop_eq_getElem_cons hlt
theorem take_snoc {α : Type} {l : List α} {k : Nat} {p : α} (h : l[k]? = some p) : l.take (k + 1) = l.take k ++ [p] := by
  rw [List.take_add_one, h]; rfl

/-- The sum of payments, as the code forms it: with the machine's own wrap. -/
def sumFrom (n : Int) : List Pay → Int
  | [] => n
  | p :: l => sumFrom (IntKind.i64.wrap (n + p.a)) l

theorem sumFrom_drop {l : List Pay} {k : Nat} {p : Pay} (n : Int) (h : l[k]? = some p) : sumFrom n (l.drop k) = sumFrom (IntKind.i64.wrap (n + p.a)) (l.drop (k + 1)) := by
  rw [drop_cons h]; rfl

/-- The sum of the holds that are held, on top of n. -/
def heldFrom (n : Int) : List Hold → Int
  | [] => n
  | x :: l => heldFrom (if x.s = 1 then IntKind.i64.wrap (n + sumFrom 0 x.ps) else n) l
def total (h : House) : Int := heldFrom (sumFrom 0 h.b) h.h

/-- A club's balance: the first that bears its number. -/
def bal (c : Int) : List Pay → Int × Bool
  | [] => (0, false)
  | p :: l => if p.c = c then (p.a, true) else bal c l

/-- Clubs behind p, increasing. -/
def incFrom (p : Int) : List Int → Bool
  | [] => true
  | c :: l => if c < 0 ∨ c ≥ 192 ∨ c ≤ p then false else incFrom c l
def areClubs (l : List Int) : Bool := incFrom (-1) l && decide (0 < l.length)

def fewHolds : List Hold → Bool
  | [] => true
  | x :: l => if x.ps.length > 70 then false else fewHolds l
def fewHouse (h : House) : Bool := if h.b.length > 30 ∨ h.h.length > 30 then false else fewHolds h.h

/-- cmp.Compare. -/
def cmpI (x y : Int) : Int := if x < y then -1 else if x > y then 1 else 0

/-- The binary search of the library: the place between i and j. -/
def bs (ks : List Int) (key : Int) (i j : Nat) : Nat :=
  if i < j then if ks.getD ((i + j) / 2) 0 < key then bs ks key ((i + j) / 2 + 1) j else bs ks key i ((i + j) / 2) else i
termination_by j - i
decreasing_by all_goals omega
def bsAt (ks : List Int) (key : Int) : Nat := bs ks key 0 ks.length
def bsMet (ks : List Int) (key : Int) : Bool := decide (ks[bsAt ks key]? = some key)

theorem cmpI_lt {x y : Int} : (cmpI x y < 0) ↔ x < y := by
  unfold cmpI; split <;> (try split) <;> omega
theorem cmpI_eq {x y : Int} : (cmpI x y = 0) ↔ x = y := by
  unfold cmpI; split <;> (try split) <;> omega
theorem bs_le (ks : List Int) (key : Int) (i j : Nat) (h : i ≤ j) : bs ks key i j ≤ j := by
  induction i, j using bs.induct ks key with
  | case1 i j h1 h2 ih => rw [bs, if_pos h1, if_pos h2]; exact ih (by omega)
  | case2 i j h1 h2 ih => rw [bs, if_pos h1, if_neg h2]; have := ih (by omega); omega
  | case3 i j h1 => rw [bs, if_neg h1]; exact h
theorem bs_lt {ks : List Int} {key : Int} {i j : Nat} {v : Int} (h : i < j) (hx : ks[(i + j) / 2]? = some v) (hv : v < key) : bs ks key ((i + j) / 2 + 1) j = bs ks key i j := by
  rw [bs.eq_def ks key i j, if_pos h, if_pos (by rw [List.getD, hx]; exact hv)]
theorem bs_ge {ks : List Int} {key : Int} {i j : Nat} {v : Int} (h : i < j) (hx : ks[(i + j) / 2]? = some v) (hv : ¬ v < key) : bs ks key i ((i + j) / 2) = bs ks key i j := by
  rw [bs.eq_def ks key i j, if_pos h, if_neg (by rw [List.getD, hx]; exact hv)]
theorem bs_end {ks : List Int} {key : Int} {i j : Nat} (h : ¬ i < j) : bs ks key i j = i := by rw [bs, if_neg h]
theorem met_at {α : Type} {f : α → Int} {l : List α} {key : Int} {i : Nat} {x : α} (he : bsAt (l.map f) key = i) (hx : l[i]? = some x) : (cmpI (f x) key == 0) = bsMet (l.map f) key := by
  rw [bsMet, he, List.getElem?_map, hx]
  simp only [Option.map_some, Option.some.injEq]
  rw [Bool.eq_iff_iff, beq_iff_eq, decide_eq_true_iff, cmpI_eq]

/-! ### validity -/
def MAXA : Int := 1125899906842624
def prevOf (k : Nat) (c : Int) : Option Int := if k = 0 then none else some c
/-- Is the number not behind the one before? -/
def notBehind (c : Int) : Option Int → Bool
  | none => false
  | some q => decide (c ≤ q)
def payLoop (has : Int → Bool) (p : Option Int) (n : Int) : List Pay → Bool
  | [] => decide (n ≤ 1125899906842624)
  | x :: l => if has x.c = false ∨ x.a < 1 ∨ x.a > 1125899906842624 ∨ notBehind x.c p = true then false else payLoop has (some x.c) (IntKind.i64.wrap (n + x.a)) l
def paysOK (has : Int → Bool) (l : List Pay) : Bool := if l.length > 64 then false else payLoop has none 0 l
theorem payLoop_step {has : Int → Bool} {k : Nat} {e x : Pay} {n : Int} {l : List Pay} (hx : l[k]? = some x) (h1 : has x.c = true) (h2 : ¬ x.a < 1) (h3 : ¬ x.a > 1125899906842624) (h4 : k = 0 ∨ e.c < x.c) :
    payLoop has (prevOf (k + 1) x.c) (IntKind.i64.wrap (n + x.a)) (l.drop (k + 1)) = payLoop has (prevOf k e.c) n (l.drop k) := by
  rw [drop_cons hx, payLoop, if_neg]
  · rfl
  · rintro (h | h | h | h)
    · rw [h1] at h; cases h
    · exact h2 h
    · exact h3 h
    · unfold prevOf at h
      split at h
      · cases h
      · simp only [notBehind, decide_eq_true_eq] at h; omega
theorem payLoop_stop {has : Int → Bool} {k : Nat} {e x : Pay} {n : Int} {l : List Pay} (hx : l[k]? = some x) (h : has x.c = false ∨ x.a < 1 ∨ x.a > 1125899906842624 ∨ (0 < k ∧ x.c ≤ e.c)) :
    false = payLoop has (prevOf k e.c) n (l.drop k) := by
  rw [drop_cons hx, payLoop, if_pos]
  rcases h with h | h | h | ⟨h, h'⟩
  · exact .inl h
  · exact .inr (.inl h)
  · exact .inr (.inr (.inl h))
  · refine .inr (.inr (.inr ?_))
    rw [prevOf, if_neg (by omega)]
    simpa [notBehind] using h'
theorem payLoop_end {has : Int → Bool} {p : Option Int} {k : Nat} {n : Int} {l : List Pay} (h : l.length ≤ k) : decide (n ≤ 1125899906842624) = payLoop has p n (l.drop k) := by
  rw [List.drop_eq_nil_of_le h]; rfl

def hasB (h : House) (c : Int) : Bool := bsMet (h.b.map (·.c)) c
def hasR (h : House) (c : Int) : Bool := (bal c h.b).2
def holdOK (has : Int → Bool) (p : Option Int) (x : Hold) : Bool :=
  decide (x.t ≥ 1) && (decide (x.t ≤ 4096) && (!notBehind x.t p && (has x.p && (paysOK has x.ps && (decide (x.s ≥ 1) && decide (x.s ≤ 3))))))
def holdsFrom (has : Int → Bool) (p : Option Int) : List Hold → Bool
  | [] => true
  | x :: l => holdOK has p x && holdsFrom has (some x.t) l
def amountsOK : List Pay → Bool
  | [] => true
  | x :: l => if x.a < 0 ∨ x.a > 1125899906842624 then false else amountsOK l
def checkWith (has : House → Int → Bool) (h : House) : Bool :=
  decide (h.b.length ≤ 192) && (decide (h.h.length ≤ 4096) && (amountsOK h.b && (areClubs (h.b.map (·.c)) && (holdsFrom (has h) none h.h && decide (total h ≤ 1125899906842624)))))
def check (h : House) : Int := if checkWith hasB h = true then 0 else 1
def checkR (h : House) : Int := if checkWith hasR h = true then 0 else 1

theorem holdsFrom_step {has : Int → Bool} {k : Nat} {e x : Hold} {l : List Hold} (hx : l[k]? = some x) (h : holdOK has (prevOf k e.t) x = true) :
    holdsFrom has (prevOf (k + 1) x.t) (l.drop (k + 1)) = holdsFrom has (prevOf k e.t) (l.drop k) := by
  rw [drop_cons hx, holdsFrom, h]; rfl
theorem holdsFrom_stop {has : Int → Bool} {k : Nat} {e x : Hold} {l : List Hold} (hx : l[k]? = some x) (h : holdOK has (prevOf k e.t) x = false) : holdsFrom has (prevOf k e.t) (l.drop k) = false := by
  rw [drop_cons hx, holdsFrom, h]; rfl
section
variable {has : House → Int → Bool} {h : House}
theorem cw_len (e : h.b.length > 192 ∨ h.h.length > 4096) : checkWith has h = false := by
  unfold checkWith
  rcases e with e | e
  · rw [decide_eq_false (by omega)]; rfl
  · rw [decide_eq_false (p := h.h.length ≤ 4096) (by omega)]; simp
theorem cw_amount (e : amountsOK h.b = false) : checkWith has h = false := by simp [checkWith, e]
theorem cw_clubs (e : areClubs (h.b.map (·.c)) = false) : checkWith has h = false := by simp [checkWith, e]
theorem cw_holds (e : holdsFrom (has h) none h.h = false) : checkWith has h = false := by simp [checkWith, e]
theorem cw_total (e : total h > 1125899906842624) : checkWith has h = false := by simp [checkWith, show ¬ total h ≤ 1125899906842624 by omega]
theorem cw_ok (h1 : h.b.length ≤ 192) (h2 : h.h.length ≤ 4096) (h3 : amountsOK h.b = true) (h4 : areClubs (h.b.map (·.c)) = true) (h5 : holdsFrom (has h) none h.h = true) (h6 : total h ≤ 1125899906842624) : checkWith has h = true := by
  simp [checkWith, h1, h2, h3, h4, h5, h6]
theorem chk_no (e : checkWith hasB h = false) : 1 = check h := by simp [check, e]
theorem chk_yes (e : checkWith hasB h = true) : 0 = check h := by simp [check, e]
theorem chkR_yes (e : checkWith hasR h = true) : 0 = checkR h := by simp [checkR, e]
theorem all_taken {l : List Pay} {k : Nat} {cl : List Int} (h : cl = (l.take k).map (·.c)) (hk : l.length ≤ k) : cl = l.map (·.c) := by rw [h, List.take_of_length_le hk]
theorem taken_step {l : List Pay} {k : Nat} {cl : List Int} {x : Pay} (h : cl = (l.take k).map (·.c)) (hx : l[k]? = some x) : cl ++ [x.c] = (l.take (k + 1)).map (·.c) := by rw [h, take_snoc hx]; simp
end

/-! ### houses -/
def newB (l : List Int) : List Pay := if areClubs l = true then l.map (fun c => ⟨c, 0⟩) else []
def newE (l : List Int) : Int := if areClubs l = true then 0 else 190

structure Step where
  k : Int
  c : Int
  a : Int
  t : Int
  ps : List Pay
  pd : Bool
  deriving DecidableEq
def encStep (x : Step) : D := .agg [.int .i64 x.k, .int .i64 x.c, .int .i64 x.a, .int .i64 x.t, .sl 2 (x.ps.map encPay), .bool x.pd]
def fewSteps : List Step → Bool
  | [] => true
  | x :: l => if x.ps.length > 70 then false else fewSteps l
def few (cl : List Int) (l : List Step) : Bool := if cl.length > 12 ∨ l.length > 14 then false else fewSteps l

/-- What all payments to its club add to a balance. -/
def addAll (x : Pay) : List Pay → Pay
  | [] => x
  | p :: ps => addAll (if p.c = x.c then ⟨x.c, IntKind.i64.wrap (x.a + p.a)⟩ else x) ps
def mid (f : Pay → Pay) (b : List Pay) (i : Nat) (y : Pay) : List Pay := (b.take i).map f ++ y :: b.drop (i + 1)
/-- What one payment makes of balances, by the search. -/
def give (m : List Pay) (p : Pay) : List Pay :=
  match m[bsAt (m.map (·.c)) p.c]? with
  | some e => if bsMet (m.map (·.c)) p.c = true then m.set (bsAt (m.map (·.c)) p.c) ⟨e.c, IntKind.i64.wrap (e.a + p.a)⟩ else m
  | none => m
def cred (m : List Pay) : List Pay → List Pay
  | [] => m
  | p :: ps => cred (give m p) ps
theorem give_met {m : List Pay} {p e : Pay} (he : m[bsAt (m.map (·.c)) p.c]? = some e) (h : bsMet (m.map (·.c)) p.c = true) : give m p = m.set (bsAt (m.map (·.c)) p.c) ⟨e.c, IntKind.i64.wrap (e.a + p.a)⟩ := by
  unfold give; rw [he]; simp [h]
theorem give_not {m : List Pay} {p : Pay} (h : bsMet (m.map (·.c)) p.c = false) : give m p = m := by
  unfold give; rw [h]; split <;> simp
theorem met_lt {α : Type} {f : α → Int} {l : List α} {key : Int} (h : bsMet (l.map f) key = true) : bsAt (l.map f) key < l.length := by
  unfold bsMet at h
  have := of_decide_eq_true h
  obtain ⟨h1, _⟩ := List.getElem?_eq_some_iff.1 this
  simpa using h1

/-! ### the three movements -/
def none0 : House := ⟨[], []⟩
def paid (h : House) (c a : Int) : House × Int :=
  if check h ≠ 0 then (none0, check h)
  else if hasB h c = false ∨ a < 1 ∨ a > 1125899906842624 then (none0, 1)
  else if IntKind.i64.wrap (total h + a) > 1125899906842624 then (none0, 2)
  else (⟨cred h.b [⟨c, a⟩], h.h⟩, 0)
def settled (h : House) (t : Int) (pd : Bool) : House × Int :=
  if check h ≠ 0 then (none0, check h)
  else if bsMet (h.h.map (·.t)) t = false then (none0, 391)
  else match h.h[bsAt (h.h.map (·.t)) t]? with
    | none => (none0, 391)
    | some x => if x.s ≠ 1 then (none0, 391)
      else if pd = true then (⟨cred h.b x.ps, h.h.set (bsAt (h.h.map (·.t)) t) ⟨x.t, x.p, x.ps, 2⟩⟩, 0)
      else (⟨cred h.b [⟨x.p, sumFrom 0 x.ps⟩], h.h.set (bsAt (h.h.map (·.t)) t) ⟨x.t, x.p, x.ps, 3⟩⟩, 0)
theorem ne_of_met {α : Type} {f : α → Int} {l : List α} {key : Int} (h : bsMet (l.map f) key = true) : l ≠ [] := by
  intro e; have := met_lt h; subst e; simp at this
theorem ne_of_check {h : House} (e : check h = 0) : h.b ≠ [] := by
  unfold check at e
  split at e
  · rename_i hc
    intro hn
    simp [checkWith, hn, areClubs] at hc
  · cases e
theorem len_of_check {h : House} (e : check h = 0) : h.b.length ≤ 192 ∧ h.h.length ≤ 4096 := by
  unfold check at e
  split at e
  · rename_i hc
    simp only [checkWith, Bool.and_eq_true, decide_eq_true_eq] at hc
    exact ⟨hc.1, hc.2.1⟩
  · cases e

/-! ### the reference's three movements -/
def addR (h : House) (ps : List Pay) : List Pay := h.b.map (fun x => addAll x ps)
def paidR (h : House) (c a : Int) : House × Int :=
  if checkR h ≠ 0 then (none0, 1)
  else if hasR h c = false ∨ a < 1 ∨ a > 1125899906842624 then (none0, 1)
  else if IntKind.i64.wrap (total h + a) > 1125899906842624 then (none0, 2)
  else (⟨addR h [⟨c, a⟩], h.h⟩, 0)
def heldAt (t : Int) : List Hold → Nat → Option (Nat × Hold)
  | [], _ => none
  | x :: l, k => if x.t ≠ t ∨ x.s ≠ 1 then heldAt t l (k + 1) else some (k, x)
def settledR (h : House) (t : Int) (pd : Bool) : House × Int :=
  if checkR h ≠ 0 then (none0, 1)
  else match heldAt t h.h 0 with
    | none => (none0, 391)
    | some (k, x) => if pd = true then (⟨addR h x.ps, h.h.set k ⟨x.t, x.p, x.ps, 2⟩⟩, 0)
      else (⟨addR h [⟨x.p, sumFrom 0 x.ps⟩], h.h.set k ⟨x.t, x.p, x.ps, 3⟩⟩, 0)
def lowT (t : Int) : List Hold → Nat
  | [] => 0
  | x :: l => if x.t < t then lowT t l + 1 else 0
def metT (t : Int) (l : List Hold) : Bool := match l[lowT t l]? with | some x => x.t == t | none => false
def heldR (h : House) (t p : Int) (l : List Pay) : House × Int :=
  if checkR h ≠ 0 then (none0, 1)
  else if t < 1 ∨ t > 4096 ∨ metT t h.h = true then (none0, 391)
  else if hasR h p = false ∨ paysOK (hasR h) l = false then (none0, 1)
  else if (bal p h.b).1 < sumFrom 0 l then (none0, 390)
  else (⟨addR h [⟨p, IntKind.i64.wrap (0 - sumFrom 0 l)⟩], h.h.take (lowT t h.h) ++ [⟨t, p, l, 1⟩] ++ h.h.drop (lowT t h.h)⟩, 0)
end Go.Proofs.Ytpkbecaailhhmaa

/-
  Walks at the data level, printed by gen.py: what each Go function returns, for data that reads as said. Conditions: those of each theorem.
-/
namespace Go.Proofs.Ytpkbecaailhhmaa
open Go.DL
set_option maxRecDepth 100000
set_option linter.unusedVariables false
set_option linter.unusedSimpArgs false
theorem ret_sum (l : List Pay) (hl : l.length ≤ 140737488355328) : Ret Try.prog 38 [(.sl 2 (l.map encPay))] (I (sumFrom 0 l)) := by
  refine Ret.of_T Try.func38 (by kernel_rfl) rfl ?_
  refine T_turn [] [0] [] (mk 17 [(0, (dt (.sl 2 (l.map encPay))))] []) (by kernel_rfl) ?_
  refine T_reg [] [0, 2] [] (mk 17 [(0, (dt (.sl 2 (l.map encPay)))), (2, (dt (I 0)))] []) (True ∧ True ∧ True) (by kernel_rfl) ⟨trivial, trivial, trivial⟩ ?_
  refine T_seq ?_
  refine T_reg [{}, { d := some (I ((l.length : Nat) : Int)) }] [2, 5, 6, 7] [] (mk 17 [(2, (dt (I 0))), (5, (dt (.sl 2 (l.map encPay)))), (6, (dt (I ((l.length : Nat) : Int)))), (7, (dt (I 0)))] []) (True ∧ True ∧ True ∧ (True ∧ D.int .i64 ((l.map encPay).length : Int) = (I ((l.length : Nat) : Int))) ∧ True ∧ True ∧ True) (by kernel_rfl) ⟨trivial, trivial, trivial, ⟨trivial, by rw [List.length_map]⟩, trivial, trivial, trivial⟩ ?_
  refine T_block ?_
  refine T_turn [] [2, 5, 6, 7] [] ((fun ((k, n) : Nat × Int) => (mk 17 [(2, (dt (I n))), (5, (dt (.sl 2 (l.map encPay)))), (6, (dt (I ((l.length : Nat) : Int)))), (7, (dt (I ((k : Nat) : Int))))] [])) (0, 0)) (by kernel_rfl) (T_loop (α := Nat × Int) (fun ((k, n) : Nat × Int) => (mk 17 [(2, (dt (I n))), (5, (dt (.sl 2 (l.map encPay)))), (6, (dt (I ((l.length : Nat) : Int)))), (7, (dt (I ((k : Nat) : Int))))] [])) (fun ((k, n) : Nat × Int) => (k ≤ (l).length) ∧ (sumFrom n (l.drop k) = sumFrom 0 l) ∧ True) (fun ((k, n) : Nat × Int) => (l).length - k) (0, 0) ⟨Nat.zero_le _, rfl, trivial⟩ ?_)
  rintro ⟨k, n⟩ ⟨ik, iv, _⟩
  refine T_reg [] [2, 5, 6, 7, 8] [] (mk 17 [(2, (dt (I n))), (5, (dt (.sl 2 (l.map encPay)))), (6, (dt (I ((l.length : Nat) : Int)))), (7, (dt (I ((k : Nat) : Int)))), (8, (dt (B (decide (((k : Nat) : Int) < ((l.length : Nat) : Int))))))] []) (True ∧ True ∧ True) (by kernel_rfl) ⟨trivial, trivial, trivial⟩ ?_
  refine T_seq ?_
  refine T_cond (decide (((k : Nat) : Int) < ((l.length : Nat) : Int))) (by kernel_rfl) (fun h1 => ?_) (fun h1 => ?_)
  · skip
    have g2 : ((k : Nat) : Int) < ((l.length : Nat) : Int) := of_decide_eq_true (h1)
    refine T_skip ?_
    refine T_seq ?_
    refine T_block ?_
    have lt3 : k < (l).length := by first | omega | (simp only [List.length_set, List.length_map, List.length_append, List.length_cons, List.length_nil] at *; omega)
    obtain ⟨x4, hx5⟩ : ∃ x, (l)[k]? = some x := ⟨_, List.getElem?_eq_getElem lt3⟩
    refine T_reg [{ d := some (.agg [(I x4.c), (I x4.a)]) }] [2, 4, 5, 6, 7] [] (mk 17 [(2, (dt (I n))), (4, (.one (.ref 4 0))), (5, (dt (.sl 2 (l.map encPay)))), (6, (dt (I ((l.length : Nat) : Int)))), (7, (dt (I ((k : Nat) : Int))))] [(4, (.var [(.dat (I x4.c)), (.dat (I x4.a))]))]) (True ∧ (0 ≤ ((k : Nat) : Int) ∧ (l.map encPay)[k]? = some (.agg [(I x4.c), (I x4.a)])) ∧ True ∧ True ∧ True ∧ True ∧ True ∧ True ∧ True) (by kernel_rfl) ⟨trivial, ⟨by omega, by rw [List.getElem?_map, hx5]; rfl⟩, trivial, trivial, trivial, trivial, trivial, trivial, trivial⟩ ?_
    refine T_regE [] (mk 17 [(2, (dt (I (IntKind.i64.wrap (n + x4.a))))), (4, (.one (.ref 4 0))), (5, (dt (.sl 2 (l.map encPay)))), (6, (dt (I ((l.length : Nat) : Int)))), (7, (dt (I ((k : Nat) : Int)))), (11, (dt (I n))), (12, (.one (.ref 4 1))), (13, (dt (I x4.a))), (14, (dt (I (IntKind.i64.wrap (n + x4.a)))))] [(4, (.var [(.dat (I x4.c)), (.dat (I x4.a))]))]) (True ∧ True ∧ True ∧ True ∧ True ∧ True ∧ True ∧ True ∧ True ∧ True ∧ True) (by kernel_rfl) ⟨trivial, trivial, trivial, trivial, trivial, trivial, trivial, trivial, trivial, trivial, trivial⟩ ?_
    refine T_regE [{ d := some (I ((k + 1 : Nat) : Int)) }] (mk 17 [(2, (dt (I (IntKind.i64.wrap (n + x4.a))))), (4, (.one (.ref 4 0))), (5, (dt (.sl 2 (l.map encPay)))), (6, (dt (I ((l.length : Nat) : Int)))), (7, (dt (I ((k + 1 : Nat) : Int)))), (11, (dt (I n))), (12, (.one (.ref 4 1))), (13, (dt (I x4.a))), (14, (dt (I (IntKind.i64.wrap (n + x4.a))))), (15, (dt (I ((k + 1 : Nat) : Int))))] [(4, (.var [(.dat (I x4.c)), (.dat (I x4.a))]))]) (True ∧ (IntKind.i64.wrap (((k : Nat) : Int) + 1) = ((k + 1 : Nat) : Int)) ∧ True ∧ True ∧ True) (by kernel_rfl) ⟨trivial, (by rw [i64_wrap (by omega) (by omega)]; omega), trivial, trivial, trivial⟩ ?_
    refine Exists.intro (k + 1, (IntKind.i64.wrap (n + x4.a))) ⟨⟨by omega, by rw [← iv]; exact (sumFrom_drop _ hx5).symm, trivial⟩, by first | omega | (dsimp only; omega), le_turn [] [2, 5, 6, 7] [4] (by kernel_rfl)⟩
  · skip
    have g6 : ¬ (((k : Nat) : Int) < ((l.length : Nat) : Int)) := of_decide_eq_false (h1)
    refine T_exit ?_
    refine T_reg [] [2] [] (mk 17 [(2, (dt (I n)))] []) (True ∧ True ∧ True ∧ True ∧ True) (by kernel_rfl) ⟨trivial, trivial, trivial, trivial, trivial⟩ ?_
    refine T_ret ?_
    exact ret_here [(dt (I n))] (by kernel_rfl) (.inl (congrArg I (by rw [← iv, List.drop_eq_nil_of_le (by omega)]; rfl : n = (sumFrom 0 l))))

theorem ret_sumL (l : List Pay) (hl : l.length ≤ 140737488355328) : Ret Try.prog 30 [(.sl 2 (l.map encPay))] (I (sumFrom 0 l)) := by
  refine Ret.of_T Try.func30 (by kernel_rfl) rfl ?_
  refine T_turn [] [0] [] (mk 19 [(0, (dt (.sl 2 (l.map encPay))))] []) (by kernel_rfl) ?_
  refine T_reg [] [0] [] (mk 19 [(0, (dt (.sl 2 (l.map encPay))))] []) (True ∧ True ∧ True) (by kernel_rfl) ⟨trivial, trivial, trivial⟩ ?_
  refine T_reg [] [0, 3] [] (mk 19 [(0, (dt (.sl 2 (l.map encPay)))), (3, (dt (I 0)))] []) (True ∧ True ∧ True) (by kernel_rfl) ⟨trivial, trivial, trivial⟩ ?_
  refine T_seq ?_
  refine T_reg [] [0, 3, 4] [] (mk 19 [(0, (dt (.sl 2 (l.map encPay)))), (3, (dt (I 0))), (4, (dt (I 0)))] []) (True ∧ True ∧ True) (by kernel_rfl) ⟨trivial, trivial, trivial⟩ ?_
  refine T_block ?_
  refine T_turn [] [0, 3, 4] [] ((fun ((k, n) : Nat × Int) => (mk 19 [(0, (dt (.sl 2 (l.map encPay)))), (3, (dt (I n))), (4, (dt (I ((k : Nat) : Int))))] [])) (0, 0)) (by kernel_rfl) (T_loop (α := Nat × Int) (fun ((k, n) : Nat × Int) => (mk 19 [(0, (dt (.sl 2 (l.map encPay)))), (3, (dt (I n))), (4, (dt (I ((k : Nat) : Int))))] [])) (fun ((k, n) : Nat × Int) => (k ≤ (l).length) ∧ (sumFrom n (l.drop k) = sumFrom 0 l) ∧ True) (fun ((k, n) : Nat × Int) => (l).length - k) (0, 0) ⟨Nat.zero_le _, rfl, trivial⟩ ?_)
  rintro ⟨k, n⟩ ⟨ik, iv, _⟩
  refine T_seq ?_
  refine T_reg [{}, {}, { d := some (I ((l.length : Nat) : Int)) }] [0, 3, 4, 8] [] (mk 19 [(0, (dt (.sl 2 (l.map encPay)))), (3, (dt (I n))), (4, (dt (I ((k : Nat) : Int)))), (8, (dt (B (decide (((k : Nat) : Int) < ((l.length : Nat) : Int))))))] []) (True ∧ True ∧ True ∧ True ∧ True ∧ (True ∧ D.int .i64 ((l.map encPay).length : Int) = (I ((l.length : Nat) : Int))) ∧ True ∧ True ∧ True) (by kernel_rfl) ⟨trivial, trivial, trivial, trivial, trivial, ⟨trivial, by rw [List.length_map]⟩, trivial, trivial, trivial⟩ ?_
  refine T_cond (decide (((k : Nat) : Int) < ((l.length : Nat) : Int))) (by kernel_rfl) (fun h1 => ?_) (fun h1 => ?_)
  · skip
    have g2 : ((k : Nat) : Int) < ((l.length : Nat) : Int) := of_decide_eq_true (h1)
    refine T_skip ?_
    refine T_seq ?_
    refine T_block ?_
    have lt3 : k < (l).length := by first | omega | (simp only [List.length_set, List.length_map, List.length_append, List.length_cons, List.length_nil] at *; omega)
    obtain ⟨x4, hx5⟩ : ∃ x, (l)[k]? = some x := ⟨_, List.getElem?_eq_getElem lt3⟩
    refine T_regE [{}, {}, {}, { d := some (.agg [(I x4.c), (I x4.a)]) }] (mk 19 [(0, (dt (.sl 2 (l.map encPay)))), (3, (dt (I (IntKind.i64.wrap (n + x4.a))))), (4, (dt (I ((k : Nat) : Int)))), (8, (dt (B (decide (((k : Nat) : Int) < ((l.length : Nat) : Int)))))), (11, (dt (I n))), (12, (dt (.sl 2 (l.map encPay)))), (13, (dt (I ((k : Nat) : Int)))), (14, (dt (.ptr [(I x4.c), (I x4.a)]))), (15, (dt (.ptr [(I x4.a)]))), (16, (dt (I x4.a))), (17, (dt (I (IntKind.i64.wrap (n + x4.a)))))] []) (True ∧ True ∧ True ∧ True ∧ True ∧ True ∧ True ∧ (0 ≤ ((k : Nat) : Int) ∧ (l.map encPay)[k]? = some (.agg [(I x4.c), (I x4.a)])) ∧ True ∧ True ∧ True ∧ True ∧ True ∧ True ∧ True ∧ True ∧ True) (by kernel_rfl) ⟨trivial, trivial, trivial, trivial, trivial, trivial, trivial, ⟨by omega, by rw [List.getElem?_map, hx5]; rfl⟩, trivial, trivial, trivial, trivial, trivial, trivial, trivial, trivial, trivial⟩ ?_
    refine T_regE [{}, { d := some (I ((k + 1 : Nat) : Int)) }] (mk 19 [(0, (dt (.sl 2 (l.map encPay)))), (3, (dt (I (IntKind.i64.wrap (n + x4.a))))), (4, (dt (I ((k + 1 : Nat) : Int)))), (8, (dt (B (decide (((k : Nat) : Int) < ((l.length : Nat) : Int)))))), (9, (dt (I ((k : Nat) : Int)))), (10, (dt (I ((k + 1 : Nat) : Int)))), (11, (dt (I n))), (12, (dt (.sl 2 (l.map encPay)))), (13, (dt (I ((k : Nat) : Int)))), (14, (dt (.ptr [(I x4.c), (I x4.a)]))), (15, (dt (.ptr [(I x4.a)]))), (16, (dt (I x4.a))), (17, (dt (I (IntKind.i64.wrap (n + x4.a)))))] []) (True ∧ True ∧ True ∧ (IntKind.i64.wrap (((k : Nat) : Int) + 1) = ((k + 1 : Nat) : Int)) ∧ True ∧ True ∧ True) (by kernel_rfl) ⟨trivial, trivial, trivial, (by rw [i64_wrap (by omega) (by omega)]; omega), trivial, trivial, trivial⟩ ?_
    refine Exists.intro (k + 1, (IntKind.i64.wrap (n + x4.a))) ⟨⟨by omega, by rw [← iv]; exact (sumFrom_drop _ hx5).symm, trivial⟩, by first | omega | (dsimp only; omega), le_turn [] [0, 3, 4] [] (by kernel_rfl)⟩
  · skip
    have g6 : ¬ (((k : Nat) : Int) < ((l.length : Nat) : Int)) := of_decide_eq_false (h1)
    refine T_exit ?_
    refine T_reg [] [2] [] (mk 19 [(2, (dt (I n)))] []) (True ∧ True ∧ True ∧ True ∧ True) (by kernel_rfl) ⟨trivial, trivial, trivial, trivial, trivial⟩ ?_
    refine T_ret ?_
    exact ret_here [(dt (I n))] (by kernel_rfl) (.inl (congrArg I (by rw [← iv, List.drop_eq_nil_of_le (by omega)]; rfl : n = (sumFrom 0 l))))

theorem ret_total (h : House) (hb : h.b.length ≤ 140737488355328) (hh : h.h.length ≤ 140737488355328) (hp : ∀ x ∈ h.h, x.ps.length ≤ 140737488355328) : Ret Try.prog 19 [(.agg [(.sl 2 (h.b.map encPay)), (.sl 4 (h.h.map encHold))])] (I (total h)) := by
  refine Ret.of_T Try.func19 (by kernel_rfl) rfl ?_
  refine T_turn [] [0] [] (mk 25 [(0, (.agg [(.dat (.sl 2 (h.b.map encPay))), (.dat (.sl 4 (h.h.map encHold)))]))] []) (by kernel_rfl) ?_
  refine T_reg [] [1] [] (mk 25 [(1, (.one (.ref 1 0)))] [(1, (.var [(.dat (.sl 2 (h.b.map encPay))), (.dat (.sl 4 (h.h.map encHold)))]))]) (True ∧ True ∧ True ∧ True ∧ True) (by kernel_rfl) ⟨trivial, trivial, trivial, trivial, trivial⟩ ?_
  refine T_reg [{}, {}, { d := some (I (sumFrom 0 h.b)) }] [1, 2] [] (mk 25 [(1, (.one (.ref 1 0))), (2, (dt (I (sumFrom 0 h.b))))] [(1, (.var [(.dat (.sl 2 (h.b.map encPay))), (.dat (.sl 4 (h.h.map encHold)))]))]) (True ∧ True ∧ True ∧ True ∧ True ∧ (Ret Try.prog 38 [(.sl 2 (h.b.map encPay))] (I (sumFrom 0 h.b))) ∧ True ∧ True ∧ True) (by kernel_rfl) ⟨trivial, trivial, trivial, trivial, trivial, (ret_sum _ (by exact hb)), trivial, trivial, trivial⟩ ?_
  refine T_seq ?_
  refine T_reg [{}, {}, { d := some (I ((h.h.length : Nat) : Int)) }] [2, 9, 10, 11] [1] (mk 25 [(2, (dt (I (sumFrom 0 h.b)))), (9, (dt (.sl 4 (h.h.map encHold)))), (10, (dt (I ((h.h.length : Nat) : Int)))), (11, (dt (I 0)))] []) (True ∧ True ∧ True ∧ True ∧ True ∧ (True ∧ D.int .i64 ((h.h.map encHold).length : Int) = (I ((h.h.length : Nat) : Int))) ∧ True ∧ True ∧ True) (by kernel_rfl) ⟨trivial, trivial, trivial, trivial, trivial, ⟨trivial, by rw [List.length_map]⟩, trivial, trivial, trivial⟩ ?_
  refine T_block ?_
  refine T_turn [] [2, 9, 10, 11] [] ((fun ((k, n) : Nat × Int) => (mk 25 [(2, (dt (I n))), (9, (dt (.sl 4 (h.h.map encHold)))), (10, (dt (I ((h.h.length : Nat) : Int)))), (11, (dt (I ((k : Nat) : Int))))] [])) (0, (sumFrom 0 h.b))) (by kernel_rfl) (T_loop (α := Nat × Int) (fun ((k, n) : Nat × Int) => (mk 25 [(2, (dt (I n))), (9, (dt (.sl 4 (h.h.map encHold)))), (10, (dt (I ((h.h.length : Nat) : Int)))), (11, (dt (I ((k : Nat) : Int))))] [])) (fun ((k, n) : Nat × Int) => (k ≤ (h.h).length) ∧ (heldFrom n (h.h.drop k) = total h) ∧ True) (fun ((k, n) : Nat × Int) => (h.h).length - k) (0, (sumFrom 0 h.b)) ⟨Nat.zero_le _, rfl, trivial⟩ ?_)
  rintro ⟨k, n⟩ ⟨ik, iv, _⟩
  refine T_reg [] [2, 9, 10, 11, 12] [] (mk 25 [(2, (dt (I n))), (9, (dt (.sl 4 (h.h.map encHold)))), (10, (dt (I ((h.h.length : Nat) : Int)))), (11, (dt (I ((k : Nat) : Int)))), (12, (dt (B (decide (((k : Nat) : Int) < ((h.h.length : Nat) : Int))))))] []) (True ∧ True ∧ True) (by kernel_rfl) ⟨trivial, trivial, trivial⟩ ?_
  refine T_seq ?_
  refine T_cond (decide (((k : Nat) : Int) < ((h.h.length : Nat) : Int))) (by kernel_rfl) (fun h1 => ?_) (fun h1 => ?_)
  · skip
    have g2 : ((k : Nat) : Int) < ((h.h.length : Nat) : Int) := of_decide_eq_true (h1)
    refine T_skip ?_
    refine T_seq ?_
    refine T_block ?_
    have lt3 : k < (h.h).length := by first | omega | (simp only [List.length_set, List.length_map, List.length_append, List.length_cons, List.length_nil] at *; omega)
    obtain ⟨x4, hx5⟩ : ∃ x, (h.h)[k]? = some x := ⟨_, List.getElem?_eq_getElem lt3⟩
    refine T_reg [{ d := some (.agg [(I x4.t), (I x4.p), (.sl 2 (x4.ps.map encPay)), (I x4.s)]) }] [2, 4, 9, 10, 11] [] (mk 25 [(2, (dt (I n))), (4, (.one (.ref 4 0))), (9, (dt (.sl 4 (h.h.map encHold)))), (10, (dt (I ((h.h.length : Nat) : Int)))), (11, (dt (I ((k : Nat) : Int))))] [(4, (.var [(.dat (I x4.t)), (.dat (I x4.p)), (.dat (.sl 2 (x4.ps.map encPay))), (.dat (I x4.s))]))]) (True ∧ (0 ≤ ((k : Nat) : Int) ∧ (h.h.map encHold)[k]? = some (.agg [(I x4.t), (I x4.p), (.sl 2 (x4.ps.map encPay)), (I x4.s)])) ∧ True ∧ True ∧ True ∧ True ∧ True ∧ True ∧ True) (by kernel_rfl) ⟨trivial, ⟨by omega, by rw [List.getElem?_map, hx5]; rfl⟩, trivial, trivial, trivial, trivial, trivial, trivial, trivial⟩ ?_
    refine T_reg [] [2, 4, 9, 10, 11, 17] [] (mk 25 [(2, (dt (I n))), (4, (.one (.ref 4 0))), (9, (dt (.sl 4 (h.h.map encHold)))), (10, (dt (I ((h.h.length : Nat) : Int)))), (11, (dt (I ((k : Nat) : Int)))), (17, (dt (B (x4.s == 1))))] [(4, (.var [(.dat (I x4.t)), (.dat (I x4.p)), (.dat (.sl 2 (x4.ps.map encPay))), (.dat (I x4.s))]))]) (True ∧ True ∧ True ∧ True ∧ True ∧ True ∧ True) (by kernel_rfl) ⟨trivial, trivial, trivial, trivial, trivial, trivial, trivial⟩ ?_
    refine T_cond (x4.s == 1) (by kernel_rfl) (fun h6 => ?_) (fun h6 => ?_)
    · skip
      have g7 : x4.s = 1 := eq_of_beq (h6)
      refine T_regE [{}, {}, {}, { d := some (I (sumFrom 0 x4.ps)) }] (mk 25 [(2, (dt (I (IntKind.i64.wrap (n + (sumFrom 0 x4.ps)))))), (4, (.one (.ref 4 0))), (9, (dt (.sl 4 (h.h.map encHold)))), (10, (dt (I ((h.h.length : Nat) : Int)))), (11, (dt (I ((k : Nat) : Int)))), (17, (dt (B (x4.s == 1)))), (18, (dt (I n))), (19, (.one (.ref 4 2))), (20, (dt (.sl 2 (x4.ps.map encPay)))), (21, (dt (I (sumFrom 0 x4.ps)))), (22, (dt (I (IntKind.i64.wrap (n + (sumFrom 0 x4.ps))))))] [(4, (.var [(.dat (I x4.t)), (.dat (I x4.p)), (.dat (.sl 2 (x4.ps.map encPay))), (.dat (I x4.s))]))]) (True ∧ True ∧ True ∧ True ∧ True ∧ True ∧ True ∧ (Ret Try.prog 38 [(.sl 2 (x4.ps.map encPay))] (I (sumFrom 0 x4.ps))) ∧ True ∧ True ∧ True ∧ True ∧ True) (by kernel_rfl) ⟨trivial, trivial, trivial, trivial, trivial, trivial, trivial, (ret_sum _ (by exact hp _ (List.mem_of_getElem? (by assumption)))), trivial, trivial, trivial, trivial, trivial⟩ ?_
      refine T_regE [{ d := some (I ((k + 1 : Nat) : Int)) }] (mk 25 [(2, (dt (I (IntKind.i64.wrap (n + (sumFrom 0 x4.ps)))))), (4, (.one (.ref 4 0))), (9, (dt (.sl 4 (h.h.map encHold)))), (10, (dt (I ((h.h.length : Nat) : Int)))), (11, (dt (I ((k + 1 : Nat) : Int)))), (17, (dt (B (x4.s == 1)))), (18, (dt (I n))), (19, (.one (.ref 4 2))), (20, (dt (.sl 2 (x4.ps.map encPay)))), (21, (dt (I (sumFrom 0 x4.ps)))), (22, (dt (I (IntKind.i64.wrap (n + (sumFrom 0 x4.ps)))))), (23, (dt (I ((k + 1 : Nat) : Int))))] [(4, (.var [(.dat (I x4.t)), (.dat (I x4.p)), (.dat (.sl 2 (x4.ps.map encPay))), (.dat (I x4.s))]))]) (True ∧ (IntKind.i64.wrap (((k : Nat) : Int) + 1) = ((k + 1 : Nat) : Int)) ∧ True ∧ True ∧ True) (by kernel_rfl) ⟨trivial, (by rw [i64_wrap (by omega) (by omega)]; omega), trivial, trivial, trivial⟩ ?_
      refine Exists.intro (k + 1, (IntKind.i64.wrap (n + (sumFrom 0 x4.ps)))) ⟨⟨by omega, by rw [← iv, drop_cons hx5]; simp only [heldFrom]; simp_all, trivial⟩, by first | omega | (dsimp only; omega), le_turn [] [2, 9, 10, 11] [4] (by kernel_rfl)⟩
    · skip
      have g8 : x4.s ≠ 1 := ne_of_beq_false (h6)
      refine T_skip ?_
      refine T_regE [{ d := some (I ((k + 1 : Nat) : Int)) }] (mk 25 [(2, (dt (I n))), (4, (.one (.ref 4 0))), (9, (dt (.sl 4 (h.h.map encHold)))), (10, (dt (I ((h.h.length : Nat) : Int)))), (11, (dt (I ((k + 1 : Nat) : Int)))), (17, (dt (B (x4.s == 1)))), (23, (dt (I ((k + 1 : Nat) : Int))))] [(4, (.var [(.dat (I x4.t)), (.dat (I x4.p)), (.dat (.sl 2 (x4.ps.map encPay))), (.dat (I x4.s))]))]) (True ∧ (IntKind.i64.wrap (((k : Nat) : Int) + 1) = ((k + 1 : Nat) : Int)) ∧ True ∧ True ∧ True) (by kernel_rfl) ⟨trivial, (by rw [i64_wrap (by omega) (by omega)]; omega), trivial, trivial, trivial⟩ ?_
      refine Exists.intro (k + 1, n) ⟨⟨by omega, by rw [← iv, drop_cons hx5]; simp only [heldFrom]; simp_all, trivial⟩, by first | omega | (dsimp only; omega), le_turn [] [2, 9, 10, 11] [4] (by kernel_rfl)⟩
  · skip
    have g9 : ¬ (((k : Nat) : Int) < ((h.h.length : Nat) : Int)) := of_decide_eq_false (h1)
    refine T_exit ?_
    refine T_reg [] [2] [] (mk 25 [(2, (dt (I n)))] []) (True ∧ True ∧ True ∧ True ∧ True) (by kernel_rfl) ⟨trivial, trivial, trivial, trivial, trivial⟩ ?_
    refine T_ret ?_
    exact ret_here [(dt (I n))] (by kernel_rfl) (.inl (congrArg I (by rw [← iv, List.drop_eq_nil_of_le (by omega)]; rfl : n = (total h))))

theorem ret_balance (h : House) (c : Int) (hb : h.b.length ≤ 140737488355328) : Ret Try.prog 14 [(.agg [(.sl 2 (h.b.map encPay)), (.sl 4 (h.h.map encHold))]), (I c)] (.tup [(I (bal c h.b).1), (B ((bal c h.b).2))]) := by
  refine Ret.of_T Try.func14 (by kernel_rfl) rfl ?_
  refine T_turn [] [0, 1] [] (mk 22 [(0, (.agg [(.dat (.sl 2 (h.b.map encPay))), (.dat (.sl 4 (h.h.map encHold)))])), (1, (dt (I c)))] []) (by kernel_rfl) ?_
  refine T_reg [] [1, 2] [] (mk 22 [(1, (dt (I c))), (2, (.one (.ref 2 0)))] [(2, (.var [(.dat (.sl 2 (h.b.map encPay))), (.dat (.sl 4 (h.h.map encHold)))]))]) (True ∧ True ∧ True ∧ True ∧ True ∧ True ∧ True) (by kernel_rfl) ⟨trivial, trivial, trivial, trivial, trivial, trivial, trivial⟩ ?_
  refine T_seq ?_
  refine T_reg [{}, {}, { d := some (I ((h.b.length : Nat) : Int)) }] [1, 9, 10, 11] [2] (mk 22 [(1, (dt (I c))), (9, (dt (.sl 2 (h.b.map encPay)))), (10, (dt (I ((h.b.length : Nat) : Int)))), (11, (dt (I 0)))] []) (True ∧ True ∧ True ∧ True ∧ True ∧ (True ∧ D.int .i64 ((h.b.map encPay).length : Int) = (I ((h.b.length : Nat) : Int))) ∧ True ∧ True ∧ True) (by kernel_rfl) ⟨trivial, trivial, trivial, trivial, trivial, ⟨trivial, by rw [List.length_map]⟩, trivial, trivial, trivial⟩ ?_
  refine T_block ?_
  refine T_turn [] [1, 9, 10, 11] [] ((fun (k : Nat) => (mk 22 [(1, (dt (I c))), (9, (dt (.sl 2 (h.b.map encPay)))), (10, (dt (I ((h.b.length : Nat) : Int)))), (11, (dt (I ((k : Nat) : Int))))] [])) (0)) (by kernel_rfl) (T_loop (α := Nat) (fun (k : Nat) => (mk 22 [(1, (dt (I c))), (9, (dt (.sl 2 (h.b.map encPay)))), (10, (dt (I ((h.b.length : Nat) : Int)))), (11, (dt (I ((k : Nat) : Int))))] [])) (fun (k : Nat) => (k ≤ (h.b).length) ∧ (bal c (h.b.drop k) = bal c h.b) ∧ True) (fun (k : Nat) => (h.b).length - k) (0) ⟨Nat.zero_le _, rfl, trivial⟩ ?_)
  rintro k ⟨ik, iv, _⟩
  refine T_reg [] [1, 9, 10, 11, 12] [] (mk 22 [(1, (dt (I c))), (9, (dt (.sl 2 (h.b.map encPay)))), (10, (dt (I ((h.b.length : Nat) : Int)))), (11, (dt (I ((k : Nat) : Int)))), (12, (dt (B (decide (((k : Nat) : Int) < ((h.b.length : Nat) : Int))))))] []) (True ∧ True ∧ True) (by kernel_rfl) ⟨trivial, trivial, trivial⟩ ?_
  refine T_seq ?_
  refine T_cond (decide (((k : Nat) : Int) < ((h.b.length : Nat) : Int))) (by kernel_rfl) (fun h1 => ?_) (fun h1 => ?_)
  · skip
    have g2 : ((k : Nat) : Int) < ((h.b.length : Nat) : Int) := of_decide_eq_true (h1)
    refine T_skip ?_
    refine T_seq ?_
    refine T_block ?_
    have lt3 : k < (h.b).length := by first | omega | (simp only [List.length_set, List.length_map, List.length_append, List.length_cons, List.length_nil] at *; omega)
    obtain ⟨x4, hx5⟩ : ∃ x, (h.b)[k]? = some x := ⟨_, List.getElem?_eq_getElem lt3⟩
    refine T_reg [{ d := some (.agg [(I x4.c), (I x4.a)]) }] [1, 7, 9, 10, 11] [] (mk 22 [(1, (dt (I c))), (7, (.one (.ref 7 0))), (9, (dt (.sl 2 (h.b.map encPay)))), (10, (dt (I ((h.b.length : Nat) : Int)))), (11, (dt (I ((k : Nat) : Int))))] [(7, (.var [(.dat (I x4.c)), (.dat (I x4.a))]))]) (True ∧ (0 ≤ ((k : Nat) : Int) ∧ (h.b.map encPay)[k]? = some (.agg [(I x4.c), (I x4.a)])) ∧ True ∧ True ∧ True ∧ True ∧ True ∧ True ∧ True) (by kernel_rfl) ⟨trivial, ⟨by omega, by rw [List.getElem?_map, hx5]; rfl⟩, trivial, trivial, trivial, trivial, trivial, trivial, trivial⟩ ?_
    refine T_reg [] [1, 7, 9, 10, 11, 18] [] (mk 22 [(1, (dt (I c))), (7, (.one (.ref 7 0))), (9, (dt (.sl 2 (h.b.map encPay)))), (10, (dt (I ((h.b.length : Nat) : Int)))), (11, (dt (I ((k : Nat) : Int)))), (18, (dt (B (x4.c == c))))] [(7, (.var [(.dat (I x4.c)), (.dat (I x4.a))]))]) (True ∧ True ∧ True ∧ True ∧ True ∧ True ∧ True ∧ True ∧ True) (by kernel_rfl) ⟨trivial, trivial, trivial, trivial, trivial, trivial, trivial, trivial, trivial⟩ ?_
    refine T_cond (x4.c == c) (by kernel_rfl) (fun h6 => ?_) (fun h6 => ?_)
    · skip
      have g7 : x4.c = c := eq_of_beq (h6)
      refine T_reg [] [4, 5] [7] (mk 22 [(4, (dt (I x4.a))), (5, (dt (B true)))] []) (True ∧ True ∧ True ∧ True ∧ True ∧ True ∧ True ∧ True ∧ True) (by kernel_rfl) ⟨trivial, trivial, trivial, trivial, trivial, trivial, trivial, trivial, trivial⟩ ?_
      refine T_ret ?_
      exact ret_here [(dt (I x4.a)), (dt (B true))] (by kernel_rfl) ⟨(.inl (congrArg I (by rw [← iv]; first | (rw [List.drop_eq_nil_of_le (by omega)]; rfl) | (rw [drop_cons (by assumption)]; simp_all [bal]) : x4.a = (bal c h.b).1))), (.inl (congrArg B (by rw [← iv]; first | (rw [List.drop_eq_nil_of_le (by omega)]; rfl) | (rw [drop_cons (by assumption)]; simp_all [bal]) : true = ((bal c h.b).2)))), trivial⟩
    · skip
      have g8 : x4.c ≠ c := ne_of_beq_false (h6)
      refine T_skip ?_
      refine T_regE [{ d := some (I ((k + 1 : Nat) : Int)) }] (mk 22 [(1, (dt (I c))), (7, (.one (.ref 7 0))), (9, (dt (.sl 2 (h.b.map encPay)))), (10, (dt (I ((h.b.length : Nat) : Int)))), (11, (dt (I ((k + 1 : Nat) : Int)))), (18, (dt (B (x4.c == c)))), (21, (dt (I ((k + 1 : Nat) : Int))))] [(7, (.var [(.dat (I x4.c)), (.dat (I x4.a))]))]) (True ∧ (IntKind.i64.wrap (((k : Nat) : Int) + 1) = ((k + 1 : Nat) : Int)) ∧ True ∧ True ∧ True) (by kernel_rfl) ⟨trivial, (by rw [i64_wrap (by omega) (by omega)]; omega), trivial, trivial, trivial⟩ ?_
      refine Exists.intro (k + 1) ⟨⟨by omega, by rw [← iv, drop_cons hx5]; simp_all [bal], trivial⟩, by first | omega | (dsimp only; omega), le_turn [] [1, 9, 10, 11] [7] (by kernel_rfl)⟩
  · skip
    have g9 : ¬ (((k : Nat) : Int) < ((h.b.length : Nat) : Int)) := of_decide_eq_false (h1)
    refine T_exit ?_
    refine T_reg [] [4, 5] [] (mk 22 [(4, (dt (I 0))), (5, (dt (B false)))] []) (True ∧ True ∧ True ∧ True ∧ True) (by kernel_rfl) ⟨trivial, trivial, trivial, trivial, trivial⟩ ?_
    refine T_ret ?_
    exact ret_here [(dt (I 0)), (dt (B false))] (by kernel_rfl) ⟨(.inl (congrArg I (by rw [← iv]; first | (rw [List.drop_eq_nil_of_le (by omega)]; rfl) | (rw [drop_cons (by assumption)]; simp_all [bal]) : 0 = (bal c h.b).1))), (.inl (congrArg B (by rw [← iv]; first | (rw [List.drop_eq_nil_of_le (by omega)]; rfl) | (rw [drop_cons (by assumption)]; simp_all [bal]) : false = ((bal c h.b).2)))), trivial⟩

theorem ret_areClubs (l : List Int) (hl : l.length ≤ 140737488355328) : Ret Try.prog 33 [(.sl 1 (l.map encI))] (B (areClubs l)) := by
  refine Ret.of_T Try.func33 (by kernel_rfl) rfl ?_
  refine T_turn [] [0] [] (mk 35 [(0, (dt (.sl 1 (l.map encI))))] []) (by kernel_rfl) ?_
  refine T_reg [] [0] [] (mk 35 [(0, (dt (.sl 1 (l.map encI))))] []) (True ∧ True ∧ True) (by kernel_rfl) ⟨trivial, trivial, trivial⟩ ?_
  refine T_seq ?_
  refine T_reg [{}, { d := some (I ((l.length : Nat) : Int)) }] [0, 5, 6, 7] [] (mk 35 [(0, (dt (.sl 1 (l.map encI)))), (5, (dt (.sl 1 (l.map encI)))), (6, (dt (I ((l.length : Nat) : Int)))), (7, (dt (I 0)))] []) (True ∧ True ∧ True ∧ (True ∧ D.int .i64 ((l.map encI).length : Int) = (I ((l.length : Nat) : Int))) ∧ True ∧ True ∧ True) (by kernel_rfl) ⟨trivial, trivial, trivial, ⟨trivial, by rw [List.length_map]⟩, trivial, trivial, trivial⟩ ?_
  refine T_block ?_
  refine T_turn [] [0, 5, 6, 7] [] ((fun ((k, p) : Nat × Int) => (mk 35 [(0, (dt (.sl 1 (l.map encI)))), (5, (dt (.sl 1 (l.map encI)))), (6, (dt (I ((l.length : Nat) : Int)))), (7, (dt (I ((k : Nat) : Int))))] [])) (0, (-1))) (by kernel_rfl) (T_loop (α := Nat × Int) (fun ((k, p) : Nat × Int) => (mk 35 [(0, (dt (.sl 1 (l.map encI)))), (5, (dt (.sl 1 (l.map encI)))), (6, (dt (I ((l.length : Nat) : Int)))), (7, (dt (I ((k : Nat) : Int))))] [])) (fun ((k, p) : Nat × Int) => (k ≤ (l).length) ∧ (incFrom p (l.drop k) = incFrom (-1) l) ∧ (k = 0 → p = -1) ∧ (0 < k → l[k - 1]? = some p) ∧ True) (fun ((k, p) : Nat × Int) => (l).length - k) (0, (-1)) ⟨Nat.zero_le _, rfl, fun _ => rfl, fun h => absurd h (Nat.lt_irrefl _), trivial⟩ ?_)
  rintro ⟨k, p⟩ ⟨ik, iv, ip, ip2, _⟩
  refine T_reg [] [0, 5, 6, 7, 8] [] (mk 35 [(0, (dt (.sl 1 (l.map encI)))), (5, (dt (.sl 1 (l.map encI)))), (6, (dt (I ((l.length : Nat) : Int)))), (7, (dt (I ((k : Nat) : Int)))), (8, (dt (B (decide (((k : Nat) : Int) < ((l.length : Nat) : Int))))))] []) (True ∧ True ∧ True) (by kernel_rfl) ⟨trivial, trivial, trivial⟩ ?_
  refine T_seq ?_
  refine T_cond (decide (((k : Nat) : Int) < ((l.length : Nat) : Int))) (by kernel_rfl) (fun h1 => ?_) (fun h1 => ?_)
  · skip
    have g2 : ((k : Nat) : Int) < ((l.length : Nat) : Int) := of_decide_eq_true (h1)
    refine T_skip ?_
    refine T_seq ?_
    refine T_block ?_
    have lt3 : k < (l).length := by first | omega | (simp only [List.length_set, List.length_map, List.length_append, List.length_cons, List.length_nil] at *; omega)
    obtain ⟨x4, hx5⟩ : ∃ x, (l)[k]? = some x := ⟨_, List.getElem?_eq_getElem lt3⟩
    refine T_reg [{}, { d := some (I x4) }] [0, 3, 4, 5, 6, 7] [] (mk 35 [(0, (dt (.sl 1 (l.map encI)))), (3, (dt (I ((k : Nat) : Int)))), (4, (dt (I x4))), (5, (dt (.sl 1 (l.map encI)))), (6, (dt (I ((l.length : Nat) : Int)))), (7, (dt (I ((k : Nat) : Int))))] []) (True ∧ True ∧ True ∧ (0 ≤ ((k : Nat) : Int) ∧ (l.map encI)[k]? = some (I x4)) ∧ True ∧ True ∧ True ∧ True ∧ True ∧ True ∧ True) (by kernel_rfl) ⟨trivial, trivial, trivial, ⟨by omega, by rw [List.getElem?_map, hx5]; rfl⟩, trivial, trivial, trivial, trivial, trivial, trivial, trivial⟩ ?_
    rcases Bool.eq_false_or_eq_true (decide (x4 < 0)) with h6 | h6
    · skip
      have g7 : x4 < 0 := of_decide_eq_true (h6)
      refine T_reg [{}, {}, {}, { g := false }, { g := false }, { d := some (B true) }, {}, { g := false }, { g := false }, { g := false }, {}, {}, {}, {}, {}, {}, {}, { g := false }, { d := some (B true) }] [0, 5, 6, 7, 30] [] (mk 35 [(0, (dt (.sl 1 (l.map encI)))), (5, (dt (.sl 1 (l.map encI)))), (6, (dt (I ((l.length : Nat) : Int)))), (7, (dt (I ((k : Nat) : Int)))), (30, (dt (B true)))] []) (True ∧ True ∧ True ∧ True ∧ True ∧ True ∧ (((decide (x4 < 0)) == false) = false) ∧ (((decide (x4 < 0)) == false) = false) ∧ True ∧ ((decide (x4 < 0)) = true) ∧ True ∧ True ∧ ((true == false) = false) ∧ ((true == false) = false) ∧ ((true == false) = false) ∧ True ∧ True ∧ True ∧ True ∧ True ∧ True ∧ True ∧ ((true == false) = false) ∧ True ∧ (true = true) ∧ True) (by kernel_rfl) ⟨trivial, trivial, trivial, trivial, trivial, trivial, (by rw [show (decide (x4 < 0)) = true from h6]; rfl), (by rw [show (decide (x4 < 0)) = true from h6]; rfl), trivial, h6, trivial, trivial, (by rw [show true = true from rfl]; rfl), (by rw [show true = true from rfl]; rfl), (by rw [show true = true from rfl]; rfl), trivial, trivial, trivial, trivial, trivial, trivial, trivial, (by rw [show true = true from rfl]; rfl), trivial, rfl, trivial⟩ ?_
      refine T_cond true (by kernel_rfl) (fun _ => ?_) (fun h => absurd (h.symm.trans rfl) (by decide))
      refine T_reg [] [2] [] (mk 35 [(2, (dt (B false)))] []) (True ∧ True ∧ True) (by kernel_rfl) ⟨trivial, trivial, trivial⟩ ?_
      refine T_ret ?_
      exact ret_here [(dt (B false))] (by kernel_rfl) (.inl (congrArg B (by first | (rw [areClubs, ← iv, List.drop_eq_nil_of_le (by omega)]; simp [incFrom]; done) | (rw [areClubs, ← iv, drop_cons (by assumption), incFrom, if_pos (by omega)]; rfl) : false = (areClubs l))))
    · skip
      have g8 : ¬ (x4 < 0) := of_decide_eq_false (h6)
      rcases Bool.eq_false_or_eq_true (decide (x4 ≥ 192)) with h9 | h9
      · skip
        have g10 : x4 ≥ 192 := of_decide_eq_true (h9)
        refine T_reg [{}, {}, {}, {}, {}, { d := some (B false) }, {}, { g := false }, { g := false }, { g := false }, {}, {}, {}, {}, {}, {}, {}, { g := false }, { d := some (B true) }] [0, 5, 6, 7, 30] [] (mk 35 [(0, (dt (.sl 1 (l.map encI)))), (5, (dt (.sl 1 (l.map encI)))), (6, (dt (I ((l.length : Nat) : Int)))), (7, (dt (I ((k : Nat) : Int)))), (30, (dt (B true)))] []) (True ∧ True ∧ True ∧ True ∧ True ∧ True ∧ (((decide (x4 < 0)) == false) = true) ∧ True ∧ (((decide (x4 < 0)) == false) = true) ∧ True ∧ True ∧ ((decide (x4 < 0)) = false) ∧ True ∧ True ∧ (((decide (x4 ≥ 192)) == false) = false) ∧ (((decide (x4 ≥ 192)) == false) = false) ∧ (((decide (x4 ≥ 192)) == false) = false) ∧ True ∧ True ∧ True ∧ True ∧ True ∧ True ∧ True ∧ (((decide (x4 ≥ 192)) == false) = false) ∧ True ∧ ((decide (x4 ≥ 192)) = true) ∧ True) (by kernel_rfl) ⟨trivial, trivial, trivial, trivial, trivial, trivial, (by rw [show (decide (x4 < 0)) = false from h6]; rfl), trivial, (by rw [show (decide (x4 < 0)) = false from h6]; rfl), trivial, trivial, h6, trivial, trivial, (by rw [show (decide (x4 ≥ 192)) = true from h9]; rfl), (by rw [show (decide (x4 ≥ 192)) = true from h9]; rfl), (by rw [show (decide (x4 ≥ 192)) = true from h9]; rfl), trivial, trivial, trivial, trivial, trivial, trivial, trivial, (by rw [show (decide (x4 ≥ 192)) = true from h9]; rfl), trivial, h9, trivial⟩ ?_
        refine T_cond true (by kernel_rfl) (fun _ => ?_) (fun h => absurd (h.symm.trans rfl) (by decide))
        refine T_reg [] [2] [] (mk 35 [(2, (dt (B false)))] []) (True ∧ True ∧ True) (by kernel_rfl) ⟨trivial, trivial, trivial⟩ ?_
        refine T_ret ?_
        exact ret_here [(dt (B false))] (by kernel_rfl) (.inl (congrArg B (by first | (rw [areClubs, ← iv, List.drop_eq_nil_of_le (by omega)]; simp [incFrom]; done) | (rw [areClubs, ← iv, drop_cons (by assumption), incFrom, if_pos (by omega)]; rfl) : false = (areClubs l))))
      · skip
        have g11 : ¬ (x4 ≥ 192) := of_decide_eq_false (h9)
        rcases Bool.eq_false_or_eq_true (decide (((k : Nat) : Int) > 0)) with h12 | h12
        · skip
          have g13 : ((k : Nat) : Int) > 0 := of_decide_eq_true (h12)
          refine T_reg [{}, {}, {}, {}, {}, { d := some (B false) }, {}, {}, {}, {}, {}, {}, {}, { d := some (I (((k : Nat) : Int) - 1)) }, { d := some (I p) }, {}, {}, { d := some (B true) }, { d := some (B false) }] [0, 5, 6, 7, 30] [] (mk 35 [(0, (dt (.sl 1 (l.map encI)))), (5, (dt (.sl 1 (l.map encI)))), (6, (dt (I ((l.length : Nat) : Int)))), (7, (dt (I ((k : Nat) : Int)))), (30, (dt (B (decide (x4 ≤ p)))))] []) (True ∧ True ∧ True ∧ True ∧ True ∧ True ∧ (((decide (x4 < 0)) == false) = true) ∧ True ∧ (((decide (x4 < 0)) == false) = true) ∧ True ∧ True ∧ ((decide (x4 < 0)) = false) ∧ True ∧ True ∧ (((decide (x4 ≥ 192)) == false) = true) ∧ True ∧ (((decide (x4 ≥ 192)) == false) = true) ∧ True ∧ (((decide (x4 ≥ 192)) == false) = true) ∧ True ∧ (((decide (((k : Nat) : Int) > 0)) == true) = true) ∧ True ∧ (((decide (((k : Nat) : Int) > 0)) == true) = true) ∧ True ∧ (((decide (((k : Nat) : Int) > 0)) == true) = true) ∧ True ∧ (((decide (((k : Nat) : Int) > 0)) == true) = true) ∧ (IntKind.i64.wrap (((k : Nat) : Int) - 1) = (((k : Nat) : Int) - 1)) ∧ (((decide (((k : Nat) : Int) > 0)) == true) = true) ∧ (0 ≤ (((k : Nat) : Int) - 1) ∧ (l.map encI)[((((k : Nat) : Int) - 1)).toNat]? = some (I p)) ∧ (((decide (((k : Nat) : Int) > 0)) == true) = true) ∧ True ∧ (((decide (((k : Nat) : Int) > 0)) == true) = true) ∧ True ∧ (((decide (x4 ≥ 192)) == false) = true) ∧ ((decide (((k : Nat) : Int) > 0)) = true) ∧ True ∧ ((decide (x4 ≥ 192)) = false) ∧ True) (by kernel_rfl) ⟨trivial, trivial, trivial, trivial, trivial, trivial, (by rw [show (decide (x4 < 0)) = false from h6]; rfl), trivial, (by rw [show (decide (x4 < 0)) = false from h6]; rfl), trivial, trivial, h6, trivial, trivial, (by rw [show (decide (x4 ≥ 192)) = false from h9]; rfl), trivial, (by rw [show (decide (x4 ≥ 192)) = false from h9]; rfl), trivial, (by rw [show (decide (x4 ≥ 192)) = false from h9]; rfl), trivial, (by rw [show (decide (((k : Nat) : Int) > 0)) = true from h12]; rfl), trivial, (by rw [show (decide (((k : Nat) : Int) > 0)) = true from h12]; rfl), trivial, (by rw [show (decide (((k : Nat) : Int) > 0)) = true from h12]; rfl), trivial, (by rw [show (decide (((k : Nat) : Int) > 0)) = true from h12]; rfl), (i64_wrap (by omega) (by omega)), (by rw [show (decide (((k : Nat) : Int) > 0)) = true from h12]; rfl), ⟨by omega, by rw [show ((((k : Nat) : Int) - 1)).toNat = k - 1 from by omega]; rw [List.getElem?_map, (ip2 (by omega))]; rfl⟩, (by rw [show (decide (((k : Nat) : Int) > 0)) = true from h12]; rfl), trivial, (by rw [show (decide (((k : Nat) : Int) > 0)) = true from h12]; rfl), trivial, (by rw [show (decide (x4 ≥ 192)) = false from h9]; rfl), h12, trivial, h9, trivial⟩ ?_
          refine T_cond (decide (x4 ≤ p)) (by kernel_rfl) (fun h14 => ?_) (fun h14 => ?_)
          · skip
            have g15 : x4 ≤ p := of_decide_eq_true (h14)
            refine T_reg [] [2] [] (mk 35 [(2, (dt (B false)))] []) (True ∧ True ∧ True) (by kernel_rfl) ⟨trivial, trivial, trivial⟩ ?_
            refine T_ret ?_
            exact ret_here [(dt (B false))] (by kernel_rfl) (.inl (congrArg B (by first | (rw [areClubs, ← iv, List.drop_eq_nil_of_le (by omega)]; simp [incFrom]; done) | (rw [areClubs, ← iv, drop_cons (by assumption), incFrom, if_pos (by omega)]; rfl) : false = (areClubs l))))
          · skip
            have g16 : ¬ (x4 ≤ p) := of_decide_eq_false (h14)
            refine T_skip ?_
            refine T_regE [{ d := some (I ((k + 1 : Nat) : Int)) }] (mk 35 [(0, (dt (.sl 1 (l.map encI)))), (5, (dt (.sl 1 (l.map encI)))), (6, (dt (I ((l.length : Nat) : Int)))), (7, (dt (I ((k + 1 : Nat) : Int)))), (30, (dt (B (decide (x4 ≤ p))))), (31, (dt (I ((k + 1 : Nat) : Int))))] []) (True ∧ (IntKind.i64.wrap (((k : Nat) : Int) + 1) = ((k + 1 : Nat) : Int)) ∧ True ∧ True ∧ True) (by kernel_rfl) ⟨trivial, (by rw [i64_wrap (by omega) (by omega)]; omega), trivial, trivial, trivial⟩ ?_
            refine Exists.intro (k + 1, x4) ⟨⟨by omega, by rw [← iv, drop_cons hx5, incFrom, if_neg (by rintro (h | h | h) <;> first | omega | (by_cases hk : k = 0 <;> first | omega | (have := ip hk; omega)))], fun h => by omega, fun _ => by simpa using hx5, trivial⟩, by first | omega | (dsimp only; omega), le_turn [] [0, 5, 6, 7] [] (by kernel_rfl)⟩
        · skip
          have g17 : ¬ (((k : Nat) : Int) > 0) := of_decide_eq_false (h12)
          refine T_reg [{}, {}, {}, {}, {}, { d := some (B false) }, {}, {}, {}, {}, { g := false }, { g := false }, { g := false }, { g := false }, { g := false }, { g := false }, { g := false }, { d := some (B false) }, { d := some (B false) }] [0, 5, 6, 7, 30] [] (mk 35 [(0, (dt (.sl 1 (l.map encI)))), (5, (dt (.sl 1 (l.map encI)))), (6, (dt (I ((l.length : Nat) : Int)))), (7, (dt (I ((k : Nat) : Int)))), (30, (dt (B false)))] []) (True ∧ True ∧ True ∧ True ∧ True ∧ True ∧ (((decide (x4 < 0)) == false) = true) ∧ True ∧ (((decide (x4 < 0)) == false) = true) ∧ True ∧ True ∧ ((decide (x4 < 0)) = false) ∧ True ∧ True ∧ (((decide (x4 ≥ 192)) == false) = true) ∧ True ∧ (((decide (x4 ≥ 192)) == false) = true) ∧ True ∧ (((decide (x4 ≥ 192)) == false) = true) ∧ True ∧ (((decide (((k : Nat) : Int) > 0)) == true) = false) ∧ (((decide (((k : Nat) : Int) > 0)) == true) = false) ∧ (((decide (((k : Nat) : Int) > 0)) == true) = false) ∧ (((decide (((k : Nat) : Int) > 0)) == true) = false) ∧ (((decide (((k : Nat) : Int) > 0)) == true) = false) ∧ (((decide (((k : Nat) : Int) > 0)) == true) = false) ∧ (((decide (((k : Nat) : Int) > 0)) == true) = false) ∧ (((decide (x4 ≥ 192)) == false) = true) ∧ ((decide (((k : Nat) : Int) > 0)) = false) ∧ True ∧ ((decide (x4 ≥ 192)) = false) ∧ True) (by kernel_rfl) ⟨trivial, trivial, trivial, trivial, trivial, trivial, (by rw [show (decide (x4 < 0)) = false from h6]; rfl), trivial, (by rw [show (decide (x4 < 0)) = false from h6]; rfl), trivial, trivial, h6, trivial, trivial, (by rw [show (decide (x4 ≥ 192)) = false from h9]; rfl), trivial, (by rw [show (decide (x4 ≥ 192)) = false from h9]; rfl), trivial, (by rw [show (decide (x4 ≥ 192)) = false from h9]; rfl), trivial, (by rw [show (decide (((k : Nat) : Int) > 0)) = false from h12]; rfl), (by rw [show (decide (((k : Nat) : Int) > 0)) = false from h12]; rfl), (by rw [show (decide (((k : Nat) : Int) > 0)) = false from h12]; rfl), (by rw [show (decide (((k : Nat) : Int) > 0)) = false from h12]; rfl), (by rw [show (decide (((k : Nat) : Int) > 0)) = false from h12]; rfl), (by rw [show (decide (((k : Nat) : Int) > 0)) = false from h12]; rfl), (by rw [show (decide (((k : Nat) : Int) > 0)) = false from h12]; rfl), (by rw [show (decide (x4 ≥ 192)) = false from h9]; rfl), h12, trivial, h9, trivial⟩ ?_
          refine T_cond false (by kernel_rfl) (fun h => absurd (h.symm.trans rfl) (by decide)) (fun _ => ?_)
          refine T_skip ?_
          refine T_regE [{ d := some (I ((k + 1 : Nat) : Int)) }] (mk 35 [(0, (dt (.sl 1 (l.map encI)))), (5, (dt (.sl 1 (l.map encI)))), (6, (dt (I ((l.length : Nat) : Int)))), (7, (dt (I ((k + 1 : Nat) : Int)))), (30, (dt (B false))), (31, (dt (I ((k + 1 : Nat) : Int))))] []) (True ∧ (IntKind.i64.wrap (((k : Nat) : Int) + 1) = ((k + 1 : Nat) : Int)) ∧ True ∧ True ∧ True) (by kernel_rfl) ⟨trivial, (by rw [i64_wrap (by omega) (by omega)]; omega), trivial, trivial, trivial⟩ ?_
          refine Exists.intro (k + 1, x4) ⟨⟨by omega, by rw [← iv, drop_cons hx5, incFrom, if_neg (by rintro (h | h | h) <;> first | omega | (by_cases hk : k = 0 <;> first | omega | (have := ip hk; omega)))], fun h => by omega, fun _ => by simpa using hx5, trivial⟩, by first | omega | (dsimp only; omega), le_turn [] [0, 5, 6, 7] [] (by kernel_rfl)⟩
  · skip
    have g18 : ¬ (((k : Nat) : Int) < ((l.length : Nat) : Int)) := of_decide_eq_false (h1)
    refine T_exit ?_
    refine T_reg [{}, { d := some (I ((l.length : Nat) : Int)) }] [2] [] (mk 35 [(2, (dt (B (decide (((l.length : Nat) : Int) > 0)))))] []) (True ∧ True ∧ True ∧ (True ∧ D.int .i64 ((l.map encI).length : Int) = (I ((l.length : Nat) : Int))) ∧ True ∧ True ∧ True ∧ True ∧ True) (by kernel_rfl) ⟨trivial, trivial, trivial, ⟨trivial, by rw [List.length_map]⟩, trivial, trivial, trivial, trivial, trivial⟩ ?_
    refine T_ret ?_
    exact ret_here [(dt (B (decide (((l.length : Nat) : Int) > 0))))] (by kernel_rfl) (.inl (congrArg B (by first | (rw [areClubs, ← iv, List.drop_eq_nil_of_le (by omega)]; simp [incFrom]; done) | (rw [areClubs, ← iv, drop_cons (by assumption), incFrom, if_pos (by omega)]; rfl) : (decide (((l.length : Nat) : Int) > 0)) = (areClubs l))))

theorem ret_isNaN (x : Int) : Ret Try.prog 72 [(I x)] (B false) := by
  refine Ret.of_T Try.func72 (by kernel_rfl) rfl ?_
  refine T_turn [] [0] [] (mk 6 [(0, (dt (I x)))] []) (by kernel_rfl) ?_
  refine T_reg [] [0] [] (mk 6 [(0, (dt (I x)))] []) (True ∧ True ∧ True) (by kernel_rfl) ⟨trivial, trivial, trivial⟩ ?_
  refine T_reg [] [2] [] (mk 6 [(2, (dt (B (x != x))))] []) (True ∧ True ∧ True ∧ True ∧ True ∧ True ∧ True ∧ True ∧ True) (by kernel_rfl) ⟨trivial, trivial, trivial, trivial, trivial, trivial, trivial, trivial, trivial⟩ ?_
  refine T_ret ?_
  exact ret_here [(dt (B (x != x)))] (by kernel_rfl) (.inl (congrArg B (by simp : (x != x) = false)))

theorem ret_cmp (x y : Int) : Ret Try.prog 60 [(I x), (I y)] (I (cmpI x y)) := by
  refine Ret.of_T Try.func60 (by kernel_rfl) rfl ?_
  refine T_turn [] [0, 1] [] (mk 20 [(0, (dt (I x))), (1, (dt (I y)))] []) (by kernel_rfl) ?_
  refine T_reg [] [0, 1] [] (mk 20 [(0, (dt (I x))), (1, (dt (I y)))] []) (True ∧ True ∧ True) (by kernel_rfl) ⟨trivial, trivial, trivial⟩ ?_
  refine T_reg [{}, { d := some (B false) }] [0, 1, 5] [] (mk 20 [(0, (dt (I x))), (1, (dt (I y))), (5, (dt (B false)))] []) (True ∧ True ∧ True ∧ (Ret Try.prog 72 [(I x)] (B false)) ∧ True ∧ True ∧ True) (by kernel_rfl) ⟨trivial, trivial, trivial, (ret_isNaN _), trivial, trivial, trivial⟩ ?_
  refine T_reg [{}, { d := some (B false) }] [0, 1, 5, 6] [] (mk 20 [(0, (dt (I x))), (1, (dt (I y))), (5, (dt (B false))), (6, (dt (B false)))] []) (True ∧ True ∧ True ∧ (Ret Try.prog 72 [(I y)] (B false)) ∧ True ∧ True ∧ True) (by kernel_rfl) ⟨trivial, trivial, trivial, (ret_isNaN _), trivial, trivial, trivial⟩ ?_
  refine T_seq ?_
  refine T_reg [] [0, 1, 6, 11] [] (mk 20 [(0, (dt (I x))), (1, (dt (I y))), (6, (dt (B false))), (11, (dt (B false)))] []) (True ∧ True ∧ True) (by kernel_rfl) ⟨trivial, trivial, trivial⟩ ?_
  refine T_cond false (by kernel_rfl) (fun h => absurd (h.symm.trans rfl) (by decide)) (fun _ => ?_)
  refine T_skip ?_
  refine T_seq ?_
  refine T_reg [] [0, 1, 13] [] (mk 20 [(0, (dt (I x))), (1, (dt (I y))), (13, (dt (B false)))] []) (True ∧ True ∧ True) (by kernel_rfl) ⟨trivial, trivial, trivial⟩ ?_
  refine T_cond false (by kernel_rfl) (fun h => absurd (h.symm.trans rfl) (by decide)) (fun _ => ?_)
  refine T_skip ?_
  refine T_seq ?_
  refine T_reg [] [0, 1, 16] [] (mk 20 [(0, (dt (I x))), (1, (dt (I y))), (16, (dt (B (decide (x < y)))))] []) (True ∧ True ∧ True ∧ True ∧ True ∧ True ∧ True) (by kernel_rfl) ⟨trivial, trivial, trivial, trivial, trivial, trivial, trivial⟩ ?_
  refine T_cond (decide (x < y)) (by kernel_rfl) (fun h1 => ?_) (fun h1 => ?_)
  · skip
    have g2 : x < y := of_decide_eq_true (h1)
    refine T_reg [] [4] [] (mk 20 [(4, (dt (I (-1))))] []) (True ∧ True ∧ True) (by kernel_rfl) ⟨trivial, trivial, trivial⟩ ?_
    refine T_ret ?_
    exact ret_here [(dt (I (-1)))] (by kernel_rfl) (.inl (congrArg I (by rw [cmpI]; first | (rw [if_pos (by omega)]; done) | (rw [if_neg (by omega), if_pos (by omega)]; done) | (rw [if_neg (by omega), if_neg (by omega)]) : (-1) = (cmpI x y))))
  · skip
    have g3 : ¬ (x < y) := of_decide_eq_false (h1)
    refine T_skip ?_
    refine T_seq ?_
    refine T_reg [] [19] [] (mk 20 [(19, (dt (B (decide (x > y)))))] []) (True ∧ True ∧ True ∧ True ∧ True ∧ True ∧ True) (by kernel_rfl) ⟨trivial, trivial, trivial, trivial, trivial, trivial, trivial⟩ ?_
    refine T_cond (decide (x > y)) (by kernel_rfl) (fun h4 => ?_) (fun h4 => ?_)
    · skip
      have g5 : x > y := of_decide_eq_true (h4)
      refine T_reg [] [4] [] (mk 20 [(4, (dt (I 1)))] []) (True ∧ True ∧ True) (by kernel_rfl) ⟨trivial, trivial, trivial⟩ ?_
      refine T_ret ?_
      exact ret_here [(dt (I 1))] (by kernel_rfl) (.inl (congrArg I (by rw [cmpI]; first | (rw [if_pos (by omega)]; done) | (rw [if_neg (by omega), if_pos (by omega)]; done) | (rw [if_neg (by omega), if_neg (by omega)]) : 1 = (cmpI x y))))
    · skip
      have g6 : ¬ (x > y) := of_decide_eq_false (h4)
      refine T_skip ?_
      refine T_reg [] [4] [] (mk 20 [(4, (dt (I 0)))] []) (True ∧ True ∧ True) (by kernel_rfl) ⟨trivial, trivial, trivial⟩ ?_
      refine T_ret ?_
      exact ret_here [(dt (I 0))] (by kernel_rfl) (.inl (congrArg I (by rw [cmpI]; first | (rw [if_pos (by omega)]; done) | (rw [if_neg (by omega), if_pos (by omega)]; done) | (rw [if_neg (by omega), if_neg (by omega)]) : 0 = (cmpI x y))))

end Go.Proofs.Ytpkbecaailhhmaa

/-
  Walks at the data level, printed by gen.py: what each Go function returns, for data that reads as said. Conditions: those of each theorem.
-/
namespace Go.Proofs.Ytpkbecaailhhmaa
open Go.DL
set_option maxRecDepth 100000
set_option linter.unusedVariables false
set_option linter.unusedSimpArgs false
theorem ret_clubOf (p : Pay) : Ret Try.prog 55 [(.agg [(I p.c), (I p.a)])] (I p.c) := by
  refine Ret.of_T Try.func55 (by kernel_rfl) rfl ?_
  refine T_turn [] [0] [] (mk 5 [(0, (.agg [(.dat (I p.c)), (.dat (I p.a))]))] []) (by kernel_rfl) ?_
  refine T_reg [] [1] [] (mk 5 [(1, (.one (.ref 1 0)))] [(1, (.var [(.dat (I p.c)), (.dat (I p.a))]))]) (True ∧ True ∧ True ∧ True ∧ True) (by kernel_rfl) ⟨trivial, trivial, trivial, trivial, trivial⟩ ?_
  refine T_reg [] [2] [1] (mk 5 [(2, (dt (I p.c)))] []) (True ∧ True ∧ True ∧ True ∧ True ∧ True ∧ True) (by kernel_rfl) ⟨trivial, trivial, trivial, trivial, trivial, trivial, trivial⟩ ?_
  refine T_ret ?_
  exact ret_here [(dt (I p.c))] (by kernel_rfl) (.inl rfl)

theorem ret_transferOf (p : Hold) : Ret Try.prog 44 [(.agg [(I p.t), (I p.p), (.sl 2 (p.ps.map encPay)), (I p.s)])] (I p.t) := by
  refine Ret.of_T Try.func44 (by kernel_rfl) rfl ?_
  refine T_turn [] [0] [] (mk 5 [(0, (.agg [(.dat (I p.t)), (.dat (I p.p)), (.dat (.sl 2 (p.ps.map encPay))), (.dat (I p.s))]))] []) (by kernel_rfl) ?_
  refine T_reg [] [1] [] (mk 5 [(1, (.one (.ref 1 0)))] [(1, (.var [(.dat (I p.t)), (.dat (I p.p)), (.dat (.sl 2 (p.ps.map encPay))), (.dat (I p.s))]))]) (True ∧ True ∧ True ∧ True ∧ True) (by kernel_rfl) ⟨trivial, trivial, trivial, trivial, trivial⟩ ?_
  refine T_reg [] [2] [1] (mk 5 [(2, (dt (I p.t)))] []) (True ∧ True ∧ True ∧ True ∧ True ∧ True ∧ True) (by kernel_rfl) ⟨trivial, trivial, trivial, trivial, trivial, trivial, trivial⟩ ?_
  refine T_ret ?_
  exact ret_here [(dt (I p.t))] (by kernel_rfl) (.inl rfl)

theorem ret_cmpClub (p : Pay) (key : Int) : Ret Try.prog 71 [(.agg [(I p.c), (I p.a)]), (I key), (.ptr [(.fn 55 [])])] (I (cmpI p.c key)) := by
  refine Ret.of_T Try.func71 (by kernel_rfl) rfl ?_
  refine T_turn [] [0, 1, 2] [] (mk 11 [(0, (.agg [(.dat (I p.c)), (.dat (I p.a))])), (1, (dt (I key))), (2, (dt (.ptr [(.fn 55 [])])))] []) (by kernel_rfl) ?_
  refine T_reg [] [1, 2, 3] [] (mk 11 [(1, (dt (I key))), (2, (dt (.ptr [(.fn 55 [])]))), (3, (.one (.ref 3 0)))] [(3, (.var [(.dat (I p.c)), (.dat (I p.a))]))]) (True ∧ True ∧ True ∧ True ∧ True) (by kernel_rfl) ⟨trivial, trivial, trivial, trivial, trivial⟩ ?_
  refine T_reg [{}, {}, { d := some (I p.c) }, {}, { d := some (I (cmpI p.c key)) }] [5] [3] (mk 11 [(5, (dt (I (cmpI p.c key))))] []) (True ∧ True ∧ True ∧ True ∧ True ∧ (Ret Try.prog 55 [(.agg [(I p.c), (I p.a)])] (I p.c)) ∧ True ∧ True ∧ True ∧ (Ret Try.prog 60 [(I p.c), (I key)] (I (cmpI p.c key))) ∧ True ∧ True ∧ True) (by kernel_rfl) ⟨trivial, trivial, trivial, trivial, trivial, (ret_clubOf ⟨p.c, p.a⟩), trivial, trivial, trivial, (ret_cmp _ _), trivial, trivial, trivial⟩ ?_
  refine T_ret ?_
  exact ret_here [(dt (I (cmpI p.c key)))] (by kernel_rfl) (.inl rfl)

theorem ret_cmpTransfer (p : Hold) (key : Int) : Ret Try.prog 59 [(.agg [(I p.t), (I p.p), (.sl 2 (p.ps.map encPay)), (I p.s)]), (I key), (.ptr [(.fn 44 [])])] (I (cmpI p.t key)) := by
  refine Ret.of_T Try.func59 (by kernel_rfl) rfl ?_
  refine T_turn [] [0, 1, 2] [] (mk 11 [(0, (.agg [(.dat (I p.t)), (.dat (I p.p)), (.dat (.sl 2 (p.ps.map encPay))), (.dat (I p.s))])), (1, (dt (I key))), (2, (dt (.ptr [(.fn 44 [])])))] []) (by kernel_rfl) ?_
  refine T_reg [] [1, 2, 3] [] (mk 11 [(1, (dt (I key))), (2, (dt (.ptr [(.fn 44 [])]))), (3, (.one (.ref 3 0)))] [(3, (.var [(.dat (I p.t)), (.dat (I p.p)), (.dat (.sl 2 (p.ps.map encPay))), (.dat (I p.s))]))]) (True ∧ True ∧ True ∧ True ∧ True) (by kernel_rfl) ⟨trivial, trivial, trivial, trivial, trivial⟩ ?_
  refine T_reg [{}, {}, { d := some (I p.t) }, {}, { d := some (I (cmpI p.t key)) }] [5] [3] (mk 11 [(5, (dt (I (cmpI p.t key))))] []) (True ∧ True ∧ True ∧ True ∧ True ∧ (Ret Try.prog 44 [(.agg [(I p.t), (I p.p), (.sl 2 (p.ps.map encPay)), (I p.s)])] (I p.t)) ∧ True ∧ True ∧ True ∧ (Ret Try.prog 60 [(I p.t), (I key)] (I (cmpI p.t key))) ∧ True ∧ True ∧ True) (by kernel_rfl) ⟨trivial, trivial, trivial, trivial, trivial, (ret_transferOf ⟨p.t, p.p, p.ps, p.s⟩), trivial, trivial, trivial, (ret_cmp _ _), trivial, trivial, trivial⟩ ?_
  refine T_ret ?_
  exact ret_here [(dt (I (cmpI p.t key)))] (by kernel_rfl) (.inl rfl)

theorem ret_bsClub (l : List Pay) (key : Int) (hl : l.length ≤ 140737488355328) : Ret Try.prog 70 [(.sl 2 (l.map encPay)), (I key), (.fn 71 [(.ptr [(.fn 55 [])])])] (.tup [(I ((bsAt (l.map (·.c)) key : Nat) : Int)), (B (bsMet (l.map (·.c)) key))]) := by
  refine Ret.of_T Try.func70 (by kernel_rfl) rfl ?_
  refine T_turn [] [0, 1, 2] [] (mk 49 [(0, (dt (.sl 2 (l.map encPay)))), (1, (dt (I key))), (2, (dt (.fn 71 [(.ptr [(.fn 55 [])])])))] []) (by kernel_rfl) ?_
  refine T_reg [] [0, 1, 2] [] (mk 49 [(0, (dt (.sl 2 (l.map encPay)))), (1, (dt (I key))), (2, (dt (.fn 71 [(.ptr [(.fn 55 [])])])))] []) (True ∧ True ∧ True ∧ True ∧ True) (by kernel_rfl) ⟨trivial, trivial, trivial, trivial, trivial⟩ ?_
  refine T_reg [{}, { d := some (I ((l.length : Nat) : Int)) }] [0, 1, 2, 8] [] (mk 49 [(0, (dt (.sl 2 (l.map encPay)))), (1, (dt (I key))), (2, (dt (.fn 71 [(.ptr [(.fn 55 [])])]))), (8, (dt (I ((l.length : Nat) : Int))))] []) (True ∧ True ∧ True ∧ (True ∧ D.int .i64 ((l.map encPay).length : Int) = (I ((l.length : Nat) : Int))) ∧ True ∧ True ∧ True) (by kernel_rfl) ⟨trivial, trivial, trivial, ⟨trivial, by rw [List.length_map]⟩, trivial, trivial, trivial⟩ ?_
  refine T_reg [] [0, 1, 2, 8, 9, 10] [] (mk 49 [(0, (dt (.sl 2 (l.map encPay)))), (1, (dt (I key))), (2, (dt (.fn 71 [(.ptr [(.fn 55 [])])]))), (8, (dt (I ((l.length : Nat) : Int)))), (9, (dt (I 0))), (10, (dt (I ((l.length : Nat) : Int))))] []) (True ∧ True ∧ True ∧ True ∧ True ∧ True ∧ True) (by kernel_rfl) ⟨trivial, trivial, trivial, trivial, trivial, trivial, trivial⟩ ?_
  refine T_seq ?_
  refine T_block ?_
  refine T_turn [] [0, 1, 2, 8, 9, 10] [] ((fun ((i, j) : Nat × Nat) => (mk 49 [(0, (dt (.sl 2 (l.map encPay)))), (1, (dt (I key))), (2, (dt (.fn 71 [(.ptr [(.fn 55 [])])]))), (8, (dt (I ((l.length : Nat) : Int)))), (9, (dt (I ((i : Nat) : Int)))), (10, (dt (I ((j : Nat) : Int))))] [])) (0, l.length)) (by kernel_rfl) (T_loop (α := Nat × Nat) (fun ((i, j) : Nat × Nat) => (mk 49 [(0, (dt (.sl 2 (l.map encPay)))), (1, (dt (I key))), (2, (dt (.fn 71 [(.ptr [(.fn 55 [])])]))), (8, (dt (I ((l.length : Nat) : Int)))), (9, (dt (I ((i : Nat) : Int)))), (10, (dt (I ((j : Nat) : Int))))] [])) (fun ((i, j) : Nat × Nat) => (i ≤ j) ∧ (j ≤ l.length) ∧ (bs (l.map (·.c)) key i j = bsAt (l.map (·.c)) key) ∧ True) (fun ((i, j) : Nat × Nat) => j - i) (0, l.length) ⟨Nat.zero_le _, Nat.le_refl _, by rw [bsAt, List.length_map], trivial⟩ ?_)
  rintro ⟨i, j⟩ ⟨ij, jn, iv, _⟩
  refine T_seq ?_
  refine T_reg [] [0, 1, 2, 8, 9, 10, 17] [] (mk 49 [(0, (dt (.sl 2 (l.map encPay)))), (1, (dt (I key))), (2, (dt (.fn 71 [(.ptr [(.fn 55 [])])]))), (8, (dt (I ((l.length : Nat) : Int)))), (9, (dt (I ((i : Nat) : Int)))), (10, (dt (I ((j : Nat) : Int)))), (17, (dt (B (decide (((i : Nat) : Int) < ((j : Nat) : Int))))))] []) (True ∧ True ∧ True ∧ True ∧ True ∧ True ∧ True) (by kernel_rfl) ⟨trivial, trivial, trivial, trivial, trivial, trivial, trivial⟩ ?_
  refine T_cond (decide (((i : Nat) : Int) < ((j : Nat) : Int))) (by kernel_rfl) (fun h1 => ?_) (fun h1 => ?_)
  · skip
    have g2 : ((i : Nat) : Int) < ((j : Nat) : Int) := of_decide_eq_true (h1)
    refine T_skip ?_
    refine T_block ?_
    refine T_reg [{}, {}, { d := some (I ((i + j : Nat) : Int)) }, { d := some (.int .u64 ((i + j : Nat) : Int)) }, { d := some (.int .u64 (((i + j) / 2 : Nat) : Int)) }, { d := some (I (((i + j) / 2 : Nat) : Int)) }] [0, 1, 2, 8, 9, 10, 11] [] (mk 49 [(0, (dt (.sl 2 (l.map encPay)))), (1, (dt (I key))), (2, (dt (.fn 71 [(.ptr [(.fn 55 [])])]))), (8, (dt (I ((l.length : Nat) : Int)))), (9, (dt (I ((i : Nat) : Int)))), (10, (dt (I ((j : Nat) : Int)))), (11, (dt (I (((i + j) / 2 : Nat) : Int))))] []) (True ∧ True ∧ True ∧ True ∧ True ∧ (IntKind.i64.wrap (((i : Nat) : Int) + ((j : Nat) : Int)) = ((i + j : Nat) : Int)) ∧ True ∧ (IntKind.u64.wrap ((i + j : Nat) : Int) = ((i + j : Nat) : Int)) ∧ True ∧ ((0 ≤ (1 : Int) ∧ (1 : Int) ≤ ((IntKind.u64.bits : Nat) : Int)) ∧ ((i + j : Nat) : Int) / 2 ^ (1 : Int).toNat = (((i + j) / 2 : Nat) : Int)) ∧ True ∧ (IntKind.i64.wrap (((i + j) / 2 : Nat) : Int) = (((i + j) / 2 : Nat) : Int)) ∧ True ∧ True ∧ True) (by kernel_rfl) ⟨trivial, trivial, trivial, trivial, trivial, (by rw [i64_wrap (by omega) (by omega)]; omega), trivial, (u64_wrap (by omega) (by omega)), trivial, ⟨⟨by decide, by decide⟩, by first | rfl | omega⟩, trivial, (i64_wrap (by omega) (by omega)), trivial, trivial, trivial⟩ ?_
    have lt3 : (i + j) / 2 < (l).length := by first | omega | (simp only [List.length_set, List.length_map, List.length_append, List.length_cons, List.length_nil] at *; omega)
    obtain ⟨x4, hx5⟩ : ∃ x, (l)[(i + j) / 2]? = some x := ⟨_, List.getElem?_eq_getElem lt3⟩
    refine T_reg [{}, {}, {}, { d := some (.agg [(I x4.c), (I x4.a)]) }, {}, {}, { d := some (I (cmpI x4.c key)) }] [0, 1, 2, 8, 9, 10, 11, 31] [] (mk 49 [(0, (dt (.sl 2 (l.map encPay)))), (1, (dt (I key))), (2, (dt (.fn 71 [(.ptr [(.fn 55 [])])]))), (8, (dt (I ((l.length : Nat) : Int)))), (9, (dt (I ((i : Nat) : Int)))), (10, (dt (I ((j : Nat) : Int)))), (11, (dt (I (((i + j) / 2 : Nat) : Int)))), (31, (dt (B (decide ((cmpI x4.c key) < 0)))))] []) (True ∧ True ∧ True ∧ True ∧ True ∧ True ∧ True ∧ (0 ≤ (((i + j) / 2 : Nat) : Int) ∧ (l.map encPay)[(i + j) / 2]? = some (.agg [(I x4.c), (I x4.a)])) ∧ True ∧ True ∧ True ∧ True ∧ True ∧ (Ret Try.prog 71 [(.agg [(I x4.c), (I x4.a)]), (I key), (.ptr [(.fn 55 [])])] (I (cmpI x4.c key))) ∧ True ∧ True ∧ True) (by kernel_rfl) ⟨trivial, trivial, trivial, trivial, trivial, trivial, trivial, ⟨by omega, by rw [List.getElem?_map, hx5]; rfl⟩, trivial, trivial, trivial, trivial, trivial, (ret_cmpClub ⟨x4.c, x4.a⟩ _), trivial, trivial, trivial⟩ ?_
    refine T_cond (decide ((cmpI x4.c key) < 0)) (by kernel_rfl) (fun h6 => ?_) (fun h6 => ?_)
    · skip
      have g7 : (cmpI x4.c key) < 0 := of_decide_eq_true (h6)
      refine T_regE [{}, { d := some (I (((i + j) / 2 + 1 : Nat) : Int)) }] (mk 49 [(0, (dt (.sl 2 (l.map encPay)))), (1, (dt (I key))), (2, (dt (.fn 71 [(.ptr [(.fn 55 [])])]))), (8, (dt (I ((l.length : Nat) : Int)))), (9, (dt (I (((i + j) / 2 + 1 : Nat) : Int)))), (10, (dt (I ((j : Nat) : Int)))), (11, (dt (I (((i + j) / 2 : Nat) : Int)))), (31, (dt (B (decide ((cmpI x4.c key) < 0))))), (32, (dt (I (((i + j) / 2 : Nat) : Int)))), (33, (dt (I (((i + j) / 2 + 1 : Nat) : Int))))] []) (True ∧ True ∧ True ∧ (IntKind.i64.wrap ((((i + j) / 2 : Nat) : Int) + 1) = (((i + j) / 2 + 1 : Nat) : Int)) ∧ True ∧ True ∧ True) (by kernel_rfl) ⟨trivial, trivial, trivial, (by rw [i64_wrap (by omega) (by omega)]; omega), trivial, trivial, trivial⟩ ?_
      refine Exists.intro ((i + j) / 2 + 1, j) ⟨⟨by omega, by omega, by rw [← iv]; exact bs_lt (by omega) (by rw [List.getElem?_map, hx5]; rfl) (cmpI_lt.1 (by assumption)), trivial⟩, by first | omega | (dsimp only; omega), le_turn [] [0, 1, 2, 8, 9, 10] [] (by kernel_rfl)⟩
    · skip
      have g8 : ¬ ((cmpI x4.c key) < 0) := of_decide_eq_false (h6)
      refine T_regE [] (mk 49 [(0, (dt (.sl 2 (l.map encPay)))), (1, (dt (I key))), (2, (dt (.fn 71 [(.ptr [(.fn 55 [])])]))), (8, (dt (I ((l.length : Nat) : Int)))), (9, (dt (I ((i : Nat) : Int)))), (10, (dt (I (((i + j) / 2 : Nat) : Int)))), (11, (dt (I (((i + j) / 2 : Nat) : Int)))), (31, (dt (B (decide ((cmpI x4.c key) < 0))))), (34, (dt (I (((i + j) / 2 : Nat) : Int))))] []) (True ∧ True ∧ True ∧ True ∧ True) (by kernel_rfl) ⟨trivial, trivial, trivial, trivial, trivial⟩ ?_
      refine Exists.intro (i, (i + j) / 2) ⟨⟨by omega, by omega, by rw [← iv]; exact bs_ge (by omega) (by rw [List.getElem?_map, hx5]; rfl) (fun h => absurd (cmpI_lt.2 h) (by assumption)), trivial⟩, by first | omega | (dsimp only; omega), le_turn [] [0, 1, 2, 8, 9, 10] [] (by kernel_rfl)⟩
  · skip
    have g9 : ¬ (((i : Nat) : Int) < ((j : Nat) : Int)) := of_decide_eq_false (h1)
    refine T_exit ?_
    rcases Bool.eq_false_or_eq_true (decide (((i : Nat) : Int) < ((l.length : Nat) : Int))) with h10 | h10
    · skip
      have g11 : ((i : Nat) : Int) < ((l.length : Nat) : Int) := of_decide_eq_true (h10)
      have lt12 : i < (l).length := by first | omega | (simp only [List.length_set, List.length_map, List.length_append, List.length_cons, List.length_nil] at *; omega)
      obtain ⟨x13, hx14⟩ : ∃ x, (l)[i]? = some x := ⟨_, List.getElem?_eq_getElem lt12⟩
      refine T_reg [{}, {}, {}, {}, {}, {}, {}, {}, { d := some (.agg [(I x13.c), (I x13.a)]) }, {}, {}, { d := some (I (cmpI x13.c key)) }, {}, { d := some (B true) }] [6, 7] [] (mk 49 [(6, (dt (I ((i : Nat) : Int)))), (7, (dt (B ((cmpI x13.c key) == 0))))] []) (True ∧ True ∧ True ∧ True ∧ True ∧ True ∧ True ∧ True ∧ True ∧ True ∧ (((decide (((i : Nat) : Int) < ((l.length : Nat) : Int))) == true) = true) ∧ True ∧ (((decide (((i : Nat) : Int) < ((l.length : Nat) : Int))) == true) = true) ∧ True ∧ (((decide (((i : Nat) : Int) < ((l.length : Nat) : Int))) == true) = true) ∧ True ∧ (((decide (((i : Nat) : Int) < ((l.length : Nat) : Int))) == true) = true) ∧ (0 ≤ ((i : Nat) : Int) ∧ (l.map encPay)[i]? = some (.agg [(I x13.c), (I x13.a)])) ∧ (((decide (((i : Nat) : Int) < ((l.length : Nat) : Int))) == true) = true) ∧ True ∧ (((decide (((i : Nat) : Int) < ((l.length : Nat) : Int))) == true) = true) ∧ True ∧ (((decide (((i : Nat) : Int) < ((l.length : Nat) : Int))) == true) = true) ∧ (Ret Try.prog 71 [(.agg [(I x13.c), (I x13.a)]), (I key), (.ptr [(.fn 55 [])])] (I (cmpI x13.c key))) ∧ (((decide (((i : Nat) : Int) < ((l.length : Nat) : Int))) == true) = true) ∧ True ∧ True ∧ ((decide (((i : Nat) : Int) < ((l.length : Nat) : Int))) = true) ∧ True ∧ True ∧ True ∧ True ∧ True) (by kernel_rfl) ⟨trivial, trivial, trivial, trivial, trivial, trivial, trivial, trivial, trivial, trivial, (by rw [show (decide (((i : Nat) : Int) < ((l.length : Nat) : Int))) = true from h10]; rfl), trivial, (by rw [show (decide (((i : Nat) : Int) < ((l.length : Nat) : Int))) = true from h10]; rfl), trivial, (by rw [show (decide (((i : Nat) : Int) < ((l.length : Nat) : Int))) = true from h10]; rfl), trivial, (by rw [show (decide (((i : Nat) : Int) < ((l.length : Nat) : Int))) = true from h10]; rfl), ⟨by omega, by rw [List.getElem?_map, hx14]; rfl⟩, (by rw [show (decide (((i : Nat) : Int) < ((l.length : Nat) : Int))) = true from h10]; rfl), trivial, (by rw [show (decide (((i : Nat) : Int) < ((l.length : Nat) : Int))) = true from h10]; rfl), trivial, (by rw [show (decide (((i : Nat) : Int) < ((l.length : Nat) : Int))) = true from h10]; rfl), (ret_cmpClub ⟨x13.c, x13.a⟩ _), (by rw [show (decide (((i : Nat) : Int) < ((l.length : Nat) : Int))) = true from h10]; rfl), trivial, trivial, h10, trivial, trivial, trivial, trivial, trivial⟩ ?_
      refine T_ret ?_
      exact ret_here [(dt (I ((i : Nat) : Int))), (dt (B ((cmpI x13.c key) == 0)))] (by kernel_rfl) ⟨(.inl (congrArg I (by first | (rw [← iv, bs_end (by omega)]; done) | exact met_at (iv.symm.trans (bs_end (by omega))) (by assumption) | (rw [bsMet, ← iv, bs_end (by omega), List.getElem?_eq_none (by rw [List.length_map]; omega)]; rfl) : ((i : Nat) : Int) = ((bsAt (l.map (·.c)) key : Nat) : Int)))), (.inl (congrArg B (by first | (rw [← iv, bs_end (by omega)]; done) | exact met_at (iv.symm.trans (bs_end (by omega))) (by assumption) | (rw [bsMet, ← iv, bs_end (by omega), List.getElem?_eq_none (by rw [List.length_map]; omega)]; rfl) : ((cmpI x13.c key) == 0) = (bsMet (l.map (·.c)) key)))), trivial⟩
    · skip
      have g15 : ¬ (((i : Nat) : Int) < ((l.length : Nat) : Int)) := of_decide_eq_false (h10)
      refine T_reg [{}, {}, {}, {}, {}, { g := false }, { g := false }, { g := false }, { g := false }, { g := false }, { g := false }, { g := false }, { g := false }, { d := some (B false) }] [6, 7] [] (mk 49 [(6, (dt (I ((i : Nat) : Int)))), (7, (dt (B false)))] []) (True ∧ True ∧ True ∧ True ∧ True ∧ True ∧ True ∧ True ∧ True ∧ True ∧ (((decide (((i : Nat) : Int) < ((l.length : Nat) : Int))) == true) = false) ∧ (((decide (((i : Nat) : Int) < ((l.length : Nat) : Int))) == true) = false) ∧ (((decide (((i : Nat) : Int) < ((l.length : Nat) : Int))) == true) = false) ∧ (((decide (((i : Nat) : Int) < ((l.length : Nat) : Int))) == true) = false) ∧ (((decide (((i : Nat) : Int) < ((l.length : Nat) : Int))) == true) = false) ∧ (((decide (((i : Nat) : Int) < ((l.length : Nat) : Int))) == true) = false) ∧ (((decide (((i : Nat) : Int) < ((l.length : Nat) : Int))) == true) = false) ∧ (((decide (((i : Nat) : Int) < ((l.length : Nat) : Int))) == true) = false) ∧ True ∧ ((decide (((i : Nat) : Int) < ((l.length : Nat) : Int))) = false) ∧ True ∧ True ∧ True ∧ True ∧ True) (by kernel_rfl) ⟨trivial, trivial, trivial, trivial, trivial, trivial, trivial, trivial, trivial, trivial, (by rw [show (decide (((i : Nat) : Int) < ((l.length : Nat) : Int))) = false from h10]; rfl), (by rw [show (decide (((i : Nat) : Int) < ((l.length : Nat) : Int))) = false from h10]; rfl), (by rw [show (decide (((i : Nat) : Int) < ((l.length : Nat) : Int))) = false from h10]; rfl), (by rw [show (decide (((i : Nat) : Int) < ((l.length : Nat) : Int))) = false from h10]; rfl), (by rw [show (decide (((i : Nat) : Int) < ((l.length : Nat) : Int))) = false from h10]; rfl), (by rw [show (decide (((i : Nat) : Int) < ((l.length : Nat) : Int))) = false from h10]; rfl), (by rw [show (decide (((i : Nat) : Int) < ((l.length : Nat) : Int))) = false from h10]; rfl), (by rw [show (decide (((i : Nat) : Int) < ((l.length : Nat) : Int))) = false from h10]; rfl), trivial, h10, trivial, trivial, trivial, trivial, trivial⟩ ?_
      refine T_ret ?_
      exact ret_here [(dt (I ((i : Nat) : Int))), (dt (B false))] (by kernel_rfl) ⟨(.inl (congrArg I (by first | (rw [← iv, bs_end (by omega)]; done) | exact met_at (iv.symm.trans (bs_end (by omega))) (by assumption) | (rw [bsMet, ← iv, bs_end (by omega), List.getElem?_eq_none (by rw [List.length_map]; omega)]; rfl) : ((i : Nat) : Int) = ((bsAt (l.map (·.c)) key : Nat) : Int)))), (.inl (congrArg B (by first | (rw [← iv, bs_end (by omega)]; done) | exact met_at (iv.symm.trans (bs_end (by omega))) (by assumption) | (rw [bsMet, ← iv, bs_end (by omega), List.getElem?_eq_none (by rw [List.length_map]; omega)]; rfl) : false = (bsMet (l.map (·.c)) key)))), trivial⟩

theorem ret_bsTransfer (l : List Hold) (key : Int) (hl : l.length ≤ 140737488355328) : Ret Try.prog 58 [(.sl 4 (l.map encHold)), (I key), (.fn 59 [(.ptr [(.fn 44 [])])])] (.tup [(I ((bsAt (l.map (·.t)) key : Nat) : Int)), (B (bsMet (l.map (·.t)) key))]) := by
  refine Ret.of_T Try.func58 (by kernel_rfl) rfl ?_
  refine T_turn [] [0, 1, 2] [] (mk 49 [(0, (dt (.sl 4 (l.map encHold)))), (1, (dt (I key))), (2, (dt (.fn 59 [(.ptr [(.fn 44 [])])])))] []) (by kernel_rfl) ?_
  refine T_reg [] [0, 1, 2] [] (mk 49 [(0, (dt (.sl 4 (l.map encHold)))), (1, (dt (I key))), (2, (dt (.fn 59 [(.ptr [(.fn 44 [])])])))] []) (True ∧ True ∧ True ∧ True ∧ True) (by kernel_rfl) ⟨trivial, trivial, trivial, trivial, trivial⟩ ?_
  refine T_reg [{}, { d := some (I ((l.length : Nat) : Int)) }] [0, 1, 2, 8] [] (mk 49 [(0, (dt (.sl 4 (l.map encHold)))), (1, (dt (I key))), (2, (dt (.fn 59 [(.ptr [(.fn 44 [])])]))), (8, (dt (I ((l.length : Nat) : Int))))] []) (True ∧ True ∧ True ∧ (True ∧ D.int .i64 ((l.map encHold).length : Int) = (I ((l.length : Nat) : Int))) ∧ True ∧ True ∧ True) (by kernel_rfl) ⟨trivial, trivial, trivial, ⟨trivial, by rw [List.length_map]⟩, trivial, trivial, trivial⟩ ?_
  refine T_reg [] [0, 1, 2, 8, 9, 10] [] (mk 49 [(0, (dt (.sl 4 (l.map encHold)))), (1, (dt (I key))), (2, (dt (.fn 59 [(.ptr [(.fn 44 [])])]))), (8, (dt (I ((l.length : Nat) : Int)))), (9, (dt (I 0))), (10, (dt (I ((l.length : Nat) : Int))))] []) (True ∧ True ∧ True ∧ True ∧ True ∧ True ∧ True) (by kernel_rfl) ⟨trivial, trivial, trivial, trivial, trivial, trivial, trivial⟩ ?_
  refine T_seq ?_
  refine T_block ?_
  refine T_turn [] [0, 1, 2, 8, 9, 10] [] ((fun ((i, j) : Nat × Nat) => (mk 49 [(0, (dt (.sl 4 (l.map encHold)))), (1, (dt (I key))), (2, (dt (.fn 59 [(.ptr [(.fn 44 [])])]))), (8, (dt (I ((l.length : Nat) : Int)))), (9, (dt (I ((i : Nat) : Int)))), (10, (dt (I ((j : Nat) : Int))))] [])) (0, l.length)) (by kernel_rfl) (T_loop (α := Nat × Nat) (fun ((i, j) : Nat × Nat) => (mk 49 [(0, (dt (.sl 4 (l.map encHold)))), (1, (dt (I key))), (2, (dt (.fn 59 [(.ptr [(.fn 44 [])])]))), (8, (dt (I ((l.length : Nat) : Int)))), (9, (dt (I ((i : Nat) : Int)))), (10, (dt (I ((j : Nat) : Int))))] [])) (fun ((i, j) : Nat × Nat) => (i ≤ j) ∧ (j ≤ l.length) ∧ (bs (l.map (·.t)) key i j = bsAt (l.map (·.t)) key) ∧ True) (fun ((i, j) : Nat × Nat) => j - i) (0, l.length) ⟨Nat.zero_le _, Nat.le_refl _, by rw [bsAt, List.length_map], trivial⟩ ?_)
  rintro ⟨i, j⟩ ⟨ij, jn, iv, _⟩
  refine T_seq ?_
  refine T_reg [] [0, 1, 2, 8, 9, 10, 17] [] (mk 49 [(0, (dt (.sl 4 (l.map encHold)))), (1, (dt (I key))), (2, (dt (.fn 59 [(.ptr [(.fn 44 [])])]))), (8, (dt (I ((l.length : Nat) : Int)))), (9, (dt (I ((i : Nat) : Int)))), (10, (dt (I ((j : Nat) : Int)))), (17, (dt (B (decide (((i : Nat) : Int) < ((j : Nat) : Int))))))] []) (True ∧ True ∧ True ∧ True ∧ True ∧ True ∧ True) (by kernel_rfl) ⟨trivial, trivial, trivial, trivial, trivial, trivial, trivial⟩ ?_
  refine T_cond (decide (((i : Nat) : Int) < ((j : Nat) : Int))) (by kernel_rfl) (fun h1 => ?_) (fun h1 => ?_)
  · skip
    have g2 : ((i : Nat) : Int) < ((j : Nat) : Int) := of_decide_eq_true (h1)
    refine T_skip ?_
    refine T_block ?_
    refine T_reg [{}, {}, { d := some (I ((i + j : Nat) : Int)) }, { d := some (.int .u64 ((i + j : Nat) : Int)) }, { d := some (.int .u64 (((i + j) / 2 : Nat) : Int)) }, { d := some (I (((i + j) / 2 : Nat) : Int)) }] [0, 1, 2, 8, 9, 10, 11] [] (mk 49 [(0, (dt (.sl 4 (l.map encHold)))), (1, (dt (I key))), (2, (dt (.fn 59 [(.ptr [(.fn 44 [])])]))), (8, (dt (I ((l.length : Nat) : Int)))), (9, (dt (I ((i : Nat) : Int)))), (10, (dt (I ((j : Nat) : Int)))), (11, (dt (I (((i + j) / 2 : Nat) : Int))))] []) (True ∧ True ∧ True ∧ True ∧ True ∧ (IntKind.i64.wrap (((i : Nat) : Int) + ((j : Nat) : Int)) = ((i + j : Nat) : Int)) ∧ True ∧ (IntKind.u64.wrap ((i + j : Nat) : Int) = ((i + j : Nat) : Int)) ∧ True ∧ ((0 ≤ (1 : Int) ∧ (1 : Int) ≤ ((IntKind.u64.bits : Nat) : Int)) ∧ ((i + j : Nat) : Int) / 2 ^ (1 : Int).toNat = (((i + j) / 2 : Nat) : Int)) ∧ True ∧ (IntKind.i64.wrap (((i + j) / 2 : Nat) : Int) = (((i + j) / 2 : Nat) : Int)) ∧ True ∧ True ∧ True) (by kernel_rfl) ⟨trivial, trivial, trivial, trivial, trivial, (by rw [i64_wrap (by omega) (by omega)]; omega), trivial, (u64_wrap (by omega) (by omega)), trivial, ⟨⟨by decide, by decide⟩, by first | rfl | omega⟩, trivial, (i64_wrap (by omega) (by omega)), trivial, trivial, trivial⟩ ?_
    have lt3 : (i + j) / 2 < (l).length := by first | omega | (simp only [List.length_set, List.length_map, List.length_append, List.length_cons, List.length_nil] at *; omega)
    obtain ⟨x4, hx5⟩ : ∃ x, (l)[(i + j) / 2]? = some x := ⟨_, List.getElem?_eq_getElem lt3⟩
    refine T_reg [{}, {}, {}, { d := some (.agg [(I x4.t), (I x4.p), (.sl 2 (x4.ps.map encPay)), (I x4.s)]) }, {}, {}, { d := some (I (cmpI x4.t key)) }] [0, 1, 2, 8, 9, 10, 11, 31] [] (mk 49 [(0, (dt (.sl 4 (l.map encHold)))), (1, (dt (I key))), (2, (dt (.fn 59 [(.ptr [(.fn 44 [])])]))), (8, (dt (I ((l.length : Nat) : Int)))), (9, (dt (I ((i : Nat) : Int)))), (10, (dt (I ((j : Nat) : Int)))), (11, (dt (I (((i + j) / 2 : Nat) : Int)))), (31, (dt (B (decide ((cmpI x4.t key) < 0)))))] []) (True ∧ True ∧ True ∧ True ∧ True ∧ True ∧ True ∧ (0 ≤ (((i + j) / 2 : Nat) : Int) ∧ (l.map encHold)[(i + j) / 2]? = some (.agg [(I x4.t), (I x4.p), (.sl 2 (x4.ps.map encPay)), (I x4.s)])) ∧ True ∧ True ∧ True ∧ True ∧ True ∧ (Ret Try.prog 59 [(.agg [(I x4.t), (I x4.p), (.sl 2 (x4.ps.map encPay)), (I x4.s)]), (I key), (.ptr [(.fn 44 [])])] (I (cmpI x4.t key))) ∧ True ∧ True ∧ True) (by kernel_rfl) ⟨trivial, trivial, trivial, trivial, trivial, trivial, trivial, ⟨by omega, by rw [List.getElem?_map, hx5]; rfl⟩, trivial, trivial, trivial, trivial, trivial, (ret_cmpTransfer ⟨x4.t, x4.p, x4.ps, x4.s⟩ _), trivial, trivial, trivial⟩ ?_
    refine T_cond (decide ((cmpI x4.t key) < 0)) (by kernel_rfl) (fun h6 => ?_) (fun h6 => ?_)
    · skip
      have g7 : (cmpI x4.t key) < 0 := of_decide_eq_true (h6)
      refine T_regE [{}, { d := some (I (((i + j) / 2 + 1 : Nat) : Int)) }] (mk 49 [(0, (dt (.sl 4 (l.map encHold)))), (1, (dt (I key))), (2, (dt (.fn 59 [(.ptr [(.fn 44 [])])]))), (8, (dt (I ((l.length : Nat) : Int)))), (9, (dt (I (((i + j) / 2 + 1 : Nat) : Int)))), (10, (dt (I ((j : Nat) : Int)))), (11, (dt (I (((i + j) / 2 : Nat) : Int)))), (31, (dt (B (decide ((cmpI x4.t key) < 0))))), (32, (dt (I (((i + j) / 2 : Nat) : Int)))), (33, (dt (I (((i + j) / 2 + 1 : Nat) : Int))))] []) (True ∧ True ∧ True ∧ (IntKind.i64.wrap ((((i + j) / 2 : Nat) : Int) + 1) = (((i + j) / 2 + 1 : Nat) : Int)) ∧ True ∧ True ∧ True) (by kernel_rfl) ⟨trivial, trivial, trivial, (by rw [i64_wrap (by omega) (by omega)]; omega), trivial, trivial, trivial⟩ ?_
      refine Exists.intro ((i + j) / 2 + 1, j) ⟨⟨by omega, by omega, by rw [← iv]; exact bs_lt (by omega) (by rw [List.getElem?_map, hx5]; rfl) (cmpI_lt.1 (by assumption)), trivial⟩, by first | omega | (dsimp only; omega), le_turn [] [0, 1, 2, 8, 9, 10] [] (by kernel_rfl)⟩
    · skip
      have g8 : ¬ ((cmpI x4.t key) < 0) := of_decide_eq_false (h6)
      refine T_regE [] (mk 49 [(0, (dt (.sl 4 (l.map encHold)))), (1, (dt (I key))), (2, (dt (.fn 59 [(.ptr [(.fn 44 [])])]))), (8, (dt (I ((l.length : Nat) : Int)))), (9, (dt (I ((i : Nat) : Int)))), (10, (dt (I (((i + j) / 2 : Nat) : Int)))), (11, (dt (I (((i + j) / 2 : Nat) : Int)))), (31, (dt (B (decide ((cmpI x4.t key) < 0))))), (34, (dt (I (((i + j) / 2 : Nat) : Int))))] []) (True ∧ True ∧ True ∧ True ∧ True) (by kernel_rfl) ⟨trivial, trivial, trivial, trivial, trivial⟩ ?_
      refine Exists.intro (i, (i + j) / 2) ⟨⟨by omega, by omega, by rw [← iv]; exact bs_ge (by omega) (by rw [List.getElem?_map, hx5]; rfl) (fun h => absurd (cmpI_lt.2 h) (by assumption)), trivial⟩, by first | omega | (dsimp only; omega), le_turn [] [0, 1, 2, 8, 9, 10] [] (by kernel_rfl)⟩
  · skip
    have g9 : ¬ (((i : Nat) : Int) < ((j : Nat) : Int)) := of_decide_eq_false (h1)
    refine T_exit ?_
    rcases Bool.eq_false_or_eq_true (decide (((i : Nat) : Int) < ((l.length : Nat) : Int))) with h10 | h10
    · skip
      have g11 : ((i : Nat) : Int) < ((l.length : Nat) : Int) := of_decide_eq_true (h10)
      have lt12 : i < (l).length := by first | omega | (simp only [List.length_set, List.length_map, List.length_append, List.length_cons, List.length_nil] at *; omega)
      obtain ⟨x13, hx14⟩ : ∃ x, (l)[i]? = some x := ⟨_, List.getElem?_eq_getElem lt12⟩
      refine T_reg [{}, {}, {}, {}, {}, {}, {}, {}, { d := some (.agg [(I x13.t), (I x13.p), (.sl 2 (x13.ps.map encPay)), (I x13.s)]) }, {}, {}, { d := some (I (cmpI x13.t key)) }, {}, { d := some (B true) }] [6, 7] [] (mk 49 [(6, (dt (I ((i : Nat) : Int)))), (7, (dt (B ((cmpI x13.t key) == 0))))] []) (True ∧ True ∧ True ∧ True ∧ True ∧ True ∧ True ∧ True ∧ True ∧ True ∧ (((decide (((i : Nat) : Int) < ((l.length : Nat) : Int))) == true) = true) ∧ True ∧ (((decide (((i : Nat) : Int) < ((l.length : Nat) : Int))) == true) = true) ∧ True ∧ (((decide (((i : Nat) : Int) < ((l.length : Nat) : Int))) == true) = true) ∧ True ∧ (((decide (((i : Nat) : Int) < ((l.length : Nat) : Int))) == true) = true) ∧ (0 ≤ ((i : Nat) : Int) ∧ (l.map encHold)[i]? = some (.agg [(I x13.t), (I x13.p), (.sl 2 (x13.ps.map encPay)), (I x13.s)])) ∧ (((decide (((i : Nat) : Int) < ((l.length : Nat) : Int))) == true) = true) ∧ True ∧ (((decide (((i : Nat) : Int) < ((l.length : Nat) : Int))) == true) = true) ∧ True ∧ (((decide (((i : Nat) : Int) < ((l.length : Nat) : Int))) == true) = true) ∧ (Ret Try.prog 59 [(.agg [(I x13.t), (I x13.p), (.sl 2 (x13.ps.map encPay)), (I x13.s)]), (I key), (.ptr [(.fn 44 [])])] (I (cmpI x13.t key))) ∧ (((decide (((i : Nat) : Int) < ((l.length : Nat) : Int))) == true) = true) ∧ True ∧ True ∧ ((decide (((i : Nat) : Int) < ((l.length : Nat) : Int))) = true) ∧ True ∧ True ∧ True ∧ True ∧ True) (by kernel_rfl) ⟨trivial, trivial, trivial, trivial, trivial, trivial, trivial, trivial, trivial, trivial, (by rw [show (decide (((i : Nat) : Int) < ((l.length : Nat) : Int))) = true from h10]; rfl), trivial, (by rw [show (decide (((i : Nat) : Int) < ((l.length : Nat) : Int))) = true from h10]; rfl), trivial, (by rw [show (decide (((i : Nat) : Int) < ((l.length : Nat) : Int))) = true from h10]; rfl), trivial, (by rw [show (decide (((i : Nat) : Int) < ((l.length : Nat) : Int))) = true from h10]; rfl), ⟨by omega, by rw [List.getElem?_map, hx14]; rfl⟩, (by rw [show (decide (((i : Nat) : Int) < ((l.length : Nat) : Int))) = true from h10]; rfl), trivial, (by rw [show (decide (((i : Nat) : Int) < ((l.length : Nat) : Int))) = true from h10]; rfl), trivial, (by rw [show (decide (((i : Nat) : Int) < ((l.length : Nat) : Int))) = true from h10]; rfl), (ret_cmpTransfer ⟨x13.t, x13.p, x13.ps, x13.s⟩ _), (by rw [show (decide (((i : Nat) : Int) < ((l.length : Nat) : Int))) = true from h10]; rfl), trivial, trivial, h10, trivial, trivial, trivial, trivial, trivial⟩ ?_
      refine T_ret ?_
      exact ret_here [(dt (I ((i : Nat) : Int))), (dt (B ((cmpI x13.t key) == 0)))] (by kernel_rfl) ⟨(.inl (congrArg I (by first | (rw [← iv, bs_end (by omega)]; done) | exact met_at (iv.symm.trans (bs_end (by omega))) (by assumption) | (rw [bsMet, ← iv, bs_end (by omega), List.getElem?_eq_none (by rw [List.length_map]; omega)]; rfl) : ((i : Nat) : Int) = ((bsAt (l.map (·.t)) key : Nat) : Int)))), (.inl (congrArg B (by first | (rw [← iv, bs_end (by omega)]; done) | exact met_at (iv.symm.trans (bs_end (by omega))) (by assumption) | (rw [bsMet, ← iv, bs_end (by omega), List.getElem?_eq_none (by rw [List.length_map]; omega)]; rfl) : ((cmpI x13.t key) == 0) = (bsMet (l.map (·.t)) key)))), trivial⟩
    · skip
      have g15 : ¬ (((i : Nat) : Int) < ((l.length : Nat) : Int)) := of_decide_eq_false (h10)
      refine T_reg [{}, {}, {}, {}, {}, { g := false }, { g := false }, { g := false }, { g := false }, { g := false }, { g := false }, { g := false }, { g := false }, { d := some (B false) }] [6, 7] [] (mk 49 [(6, (dt (I ((i : Nat) : Int)))), (7, (dt (B false)))] []) (True ∧ True ∧ True ∧ True ∧ True ∧ True ∧ True ∧ True ∧ True ∧ True ∧ (((decide (((i : Nat) : Int) < ((l.length : Nat) : Int))) == true) = false) ∧ (((decide (((i : Nat) : Int) < ((l.length : Nat) : Int))) == true) = false) ∧ (((decide (((i : Nat) : Int) < ((l.length : Nat) : Int))) == true) = false) ∧ (((decide (((i : Nat) : Int) < ((l.length : Nat) : Int))) == true) = false) ∧ (((decide (((i : Nat) : Int) < ((l.length : Nat) : Int))) == true) = false) ∧ (((decide (((i : Nat) : Int) < ((l.length : Nat) : Int))) == true) = false) ∧ (((decide (((i : Nat) : Int) < ((l.length : Nat) : Int))) == true) = false) ∧ (((decide (((i : Nat) : Int) < ((l.length : Nat) : Int))) == true) = false) ∧ True ∧ ((decide (((i : Nat) : Int) < ((l.length : Nat) : Int))) = false) ∧ True ∧ True ∧ True ∧ True ∧ True) (by kernel_rfl) ⟨trivial, trivial, trivial, trivial, trivial, trivial, trivial, trivial, trivial, trivial, (by rw [show (decide (((i : Nat) : Int) < ((l.length : Nat) : Int))) = false from h10]; rfl), (by rw [show (decide (((i : Nat) : Int) < ((l.length : Nat) : Int))) = false from h10]; rfl), (by rw [show (decide (((i : Nat) : Int) < ((l.length : Nat) : Int))) = false from h10]; rfl), (by rw [show (decide (((i : Nat) : Int) < ((l.length : Nat) : Int))) = false from h10]; rfl), (by rw [show (decide (((i : Nat) : Int) < ((l.length : Nat) : Int))) = false from h10]; rfl), (by rw [show (decide (((i : Nat) : Int) < ((l.length : Nat) : Int))) = false from h10]; rfl), (by rw [show (decide (((i : Nat) : Int) < ((l.length : Nat) : Int))) = false from h10]; rfl), (by rw [show (decide (((i : Nat) : Int) < ((l.length : Nat) : Int))) = false from h10]; rfl), trivial, h10, trivial, trivial, trivial, trivial, trivial⟩ ?_
      refine T_ret ?_
      exact ret_here [(dt (I ((i : Nat) : Int))), (dt (B false))] (by kernel_rfl) ⟨(.inl (congrArg I (by first | (rw [← iv, bs_end (by omega)]; done) | exact met_at (iv.symm.trans (bs_end (by omega))) (by assumption) | (rw [bsMet, ← iv, bs_end (by omega), List.getElem?_eq_none (by rw [List.length_map]; omega)]; rfl) : ((i : Nat) : Int) = ((bsAt (l.map (·.t)) key : Nat) : Int)))), (.inl (congrArg B (by first | (rw [← iv, bs_end (by omega)]; done) | exact met_at (iv.symm.trans (bs_end (by omega))) (by assumption) | (rw [bsMet, ← iv, bs_end (by omega), List.getElem?_eq_none (by rw [List.length_map]; omega)]; rfl) : false = (bsMet (l.map (·.t)) key)))), trivial⟩

theorem ret_findClub (l : List Pay) (key : Int) (hl : l.length ≤ 140737488355328) : Ret Try.prog 54 [(.sl 2 (l.map encPay)), (I key), (.fn 55 [])] (.tup [(I ((bsAt (l.map (·.c)) key : Nat) : Int)), (B (bsMet (l.map (·.c)) key))]) := by
  refine Ret.of_T Try.func54 (by kernel_rfl) rfl ?_
  refine T_turn [] [0, 1, 2] [] (mk 14 [(0, (dt (.sl 2 (l.map encPay)))), (1, (dt (I key))), (2, (dt (.fn 55 [])))] []) (by kernel_rfl) ?_
  refine T_reg [] [0, 1, 5] [] (mk 14 [(0, (dt (.sl 2 (l.map encPay)))), (1, (dt (I key))), (5, (.one (.ref 5 0)))] [(5, (.var [(.dat (.fn 55 []))]))]) (True ∧ True ∧ True ∧ True ∧ True ∧ True ∧ True) (by kernel_rfl) ⟨trivial, trivial, trivial, trivial, trivial, trivial, trivial⟩ ?_
  refine T_turn [5] [0, 1, 5] [] (mk 14 [(0, (dt (.sl 2 (l.map encPay)))), (1, (dt (I key))), (5, (dt (.ptr [(.fn 55 [])])))] []) (by kernel_rfl) ?_
  refine T_reg [{}, {}, {}, { d := some (.tup [(I ((bsAt (l.map (·.c)) key : Nat) : Int)), (B (bsMet (l.map (·.c)) key))]) }] [6, 7] [] (mk 14 [(6, (dt (I ((bsAt (l.map (·.c)) key : Nat) : Int)))), (7, (dt (B (bsMet (l.map (·.c)) key))))] []) (True ∧ True ∧ True ∧ True ∧ True ∧ True ∧ True ∧ (Ret Try.prog 70 [(.sl 2 (l.map encPay)), (I key), (.fn 71 [(.ptr [(.fn 55 [])])])] (.tup [(I ((bsAt (l.map (·.c)) key : Nat) : Int)), (B (bsMet (l.map (·.c)) key))])) ∧ True ∧ True ∧ True ∧ True ∧ True ∧ True ∧ True ∧ True ∧ True) (by kernel_rfl) ⟨trivial, trivial, trivial, trivial, trivial, trivial, trivial, (ret_bsClub _ _ (by omega)), trivial, trivial, trivial, trivial, trivial, trivial, trivial, trivial, trivial⟩ ?_
  refine T_ret ?_
  exact ret_here [(dt (I ((bsAt (l.map (·.c)) key : Nat) : Int))), (dt (B (bsMet (l.map (·.c)) key)))] (by kernel_rfl) ⟨(.inl rfl), (.inl rfl), trivial⟩

theorem ret_findTransfer (l : List Hold) (key : Int) (hl : l.length ≤ 140737488355328) : Ret Try.prog 43 [(.sl 4 (l.map encHold)), (I key), (.fn 44 [])] (.tup [(I ((bsAt (l.map (·.t)) key : Nat) : Int)), (B (bsMet (l.map (·.t)) key))]) := by
  refine Ret.of_T Try.func43 (by kernel_rfl) rfl ?_
  refine T_turn [] [0, 1, 2] [] (mk 14 [(0, (dt (.sl 4 (l.map encHold)))), (1, (dt (I key))), (2, (dt (.fn 44 [])))] []) (by kernel_rfl) ?_
  refine T_reg [] [0, 1, 5] [] (mk 14 [(0, (dt (.sl 4 (l.map encHold)))), (1, (dt (I key))), (5, (.one (.ref 5 0)))] [(5, (.var [(.dat (.fn 44 []))]))]) (True ∧ True ∧ True ∧ True ∧ True ∧ True ∧ True) (by kernel_rfl) ⟨trivial, trivial, trivial, trivial, trivial, trivial, trivial⟩ ?_
  refine T_turn [5] [0, 1, 5] [] (mk 14 [(0, (dt (.sl 4 (l.map encHold)))), (1, (dt (I key))), (5, (dt (.ptr [(.fn 44 [])])))] []) (by kernel_rfl) ?_
  refine T_reg [{}, {}, {}, { d := some (.tup [(I ((bsAt (l.map (·.t)) key : Nat) : Int)), (B (bsMet (l.map (·.t)) key))]) }] [6, 7] [] (mk 14 [(6, (dt (I ((bsAt (l.map (·.t)) key : Nat) : Int)))), (7, (dt (B (bsMet (l.map (·.t)) key))))] []) (True ∧ True ∧ True ∧ True ∧ True ∧ True ∧ True ∧ (Ret Try.prog 58 [(.sl 4 (l.map encHold)), (I key), (.fn 59 [(.ptr [(.fn 44 [])])])] (.tup [(I ((bsAt (l.map (·.t)) key : Nat) : Int)), (B (bsMet (l.map (·.t)) key))])) ∧ True ∧ True ∧ True ∧ True ∧ True ∧ True ∧ True ∧ True ∧ True) (by kernel_rfl) ⟨trivial, trivial, trivial, trivial, trivial, trivial, trivial, (ret_bsTransfer _ _ (by omega)), trivial, trivial, trivial, trivial, trivial, trivial, trivial, trivial, trivial⟩ ?_
  refine T_ret ?_
  exact ret_here [(dt (I ((bsAt (l.map (·.t)) key : Nat) : Int))), (dt (B (bsMet (l.map (·.t)) key)))] (by kernel_rfl) ⟨(.inl rfl), (.inl rfl), trivial⟩

theorem ret_hasAccount (h : House) (hb : h.b.length ≤ 140737488355328) (c : Int) : Ret Try.prog 40 [(.agg [(.sl 2 (h.b.map encPay)), (.sl 4 (h.h.map encHold))]), (I c)] (B (hasB h c)) := by
  refine Ret.of_T Try.func40 (by kernel_rfl) rfl ?_
  refine T_turn [] [0, 1] [] (mk 15 [(0, (.agg [(.dat (.sl 2 (h.b.map encPay))), (.dat (.sl 4 (h.h.map encHold)))])), (1, (dt (I c)))] []) (by kernel_rfl) ?_
  refine T_reg [] [1, 2] [] (mk 15 [(1, (dt (I c))), (2, (.one (.ref 2 0)))] [(2, (.var [(.dat (.sl 2 (h.b.map encPay))), (.dat (.sl 4 (h.h.map encHold)))]))]) (True ∧ True ∧ True ∧ True ∧ True) (by kernel_rfl) ⟨trivial, trivial, trivial, trivial, trivial⟩ ?_
  refine T_reg [{}, {}, {}, { d := some (.tup [(I (((bsAt (h.b.map (·.c)) c) : Nat) : Int)), (B (bsMet (h.b.map (·.c)) c))]) }] [6] [2] (mk 15 [(6, (dt (B (bsMet (h.b.map (·.c)) c))))] []) (True ∧ True ∧ True ∧ True ∧ True ∧ True ∧ True ∧ (Ret Try.prog 54 [(.sl 2 (h.b.map encPay)), (I c), (.fn 55 [])] (.tup [(I (((bsAt (h.b.map (·.c)) c) : Nat) : Int)), (B (bsMet (h.b.map (·.c)) c))])) ∧ True ∧ True ∧ True ∧ True ∧ True ∧ True ∧ True ∧ True ∧ True ∧ True ∧ True) (by kernel_rfl) ⟨trivial, trivial, trivial, trivial, trivial, trivial, trivial, (ret_findClub _ _ (by omega)), trivial, trivial, trivial, trivial, trivial, trivial, trivial, trivial, trivial, trivial, trivial⟩ ?_
  refine T_reg [] [4] [] (mk 15 [(4, (dt (B (bsMet (h.b.map (·.c)) c))))] []) (True ∧ True ∧ True ∧ True ∧ True) (by kernel_rfl) ⟨trivial, trivial, trivial, trivial, trivial⟩ ?_
  refine T_ret ?_
  exact ret_here [(dt (B (bsMet (h.b.map (·.c)) c)))] (by kernel_rfl) (.inl (congrArg B (by rfl : (bsMet (h.b.map (·.c)) c) = (hasB h c))))

theorem ret_arePayments (h : House) (hb : h.b.length ≤ 140737488355328) (l : List Pay) (hl : l.length ≤ 140737488355328) : Ret Try.prog 45 [(.agg [(.sl 2 (h.b.map encPay)), (.sl 4 (h.h.map encHold))]), (.sl 2 (l.map encPay))] (B (paysOK (hasB h) l)) := by
  refine Ret.of_T Try.func45 (by kernel_rfl) rfl ?_
  refine T_turn [] [0, 1] [] (mk 55 [(0, (.agg [(.dat (.sl 2 (h.b.map encPay))), (.dat (.sl 4 (h.h.map encHold)))])), (1, (dt (.sl 2 (l.map encPay))))] []) (by kernel_rfl) ?_
  refine T_reg [] [1, 2] [] (mk 55 [(1, (dt (.sl 2 (l.map encPay)))), (2, (.one (.ref 2 0)))] [(2, (.var [(.dat (.sl 2 (h.b.map encPay))), (.dat (.sl 4 (h.h.map encHold)))]))]) (True ∧ True ∧ True ∧ True ∧ True) (by kernel_rfl) ⟨trivial, trivial, trivial, trivial, trivial⟩ ?_
  refine T_seq ?_
  refine T_reg [{}, { d := some (I ((l.length : Nat) : Int)) }] [1, 2, 10] [] (mk 55 [(1, (dt (.sl 2 (l.map encPay)))), (2, (.one (.ref 2 0))), (10, (dt (B (decide (((l.length : Nat) : Int) > 64)))))] [(2, (.var [(.dat (.sl 2 (h.b.map encPay))), (.dat (.sl 4 (h.h.map encHold)))]))]) (True ∧ True ∧ True ∧ (True ∧ D.int .i64 ((l.map encPay).length : Int) = (I ((l.length : Nat) : Int))) ∧ True ∧ True ∧ True) (by kernel_rfl) ⟨trivial, trivial, trivial, ⟨trivial, by rw [List.length_map]⟩, trivial, trivial, trivial⟩ ?_
  refine T_cond (decide (((l.length : Nat) : Int) > 64)) (by kernel_rfl) (fun h1 => ?_) (fun h1 => ?_)
  · skip
    have g2 : ((l.length : Nat) : Int) > 64 := of_decide_eq_true (h1)
    refine T_reg [] [4] [2] (mk 55 [(4, (dt (B false)))] []) (True ∧ True ∧ True) (by kernel_rfl) ⟨trivial, trivial, trivial⟩ ?_
    refine T_ret ?_
    exact ret_here [(dt (B false))] (by kernel_rfl) (.inl (congrArg B (by first | (rw [paysOK, if_pos (by omega)]; done) | (rw [paysOK, if_neg (by omega), ← iv]; first | exact payLoop_end (by omega) | exact payLoop_stop (by assumption) (by first | exact .inl (by assumption) | exact .inr (by omega))) : false = (paysOK (hasB h) l))))
  · skip
    have g3 : ¬ (((l.length : Nat) : Int) > 64) := of_decide_eq_false (h1)
    refine T_skip ?_
    refine T_reg [] [1, 2, 5] [] (mk 55 [(1, (dt (.sl 2 (l.map encPay)))), (2, (.one (.ref 2 0))), (5, (dt (I 0)))] [(2, (.var [(.dat (.sl 2 (h.b.map encPay))), (.dat (.sl 4 (h.h.map encHold)))]))]) (True ∧ True ∧ True) (by kernel_rfl) ⟨trivial, trivial, trivial⟩ ?_
    refine T_seq ?_
    refine T_reg [{}, { d := some (I ((l.length : Nat) : Int)) }] [1, 2, 5, 11, 12, 13] [] (mk 55 [(1, (dt (.sl 2 (l.map encPay)))), (2, (.one (.ref 2 0))), (5, (dt (I 0))), (11, (dt (.sl 2 (l.map encPay)))), (12, (dt (I ((l.length : Nat) : Int)))), (13, (dt (I 0)))] [(2, (.var [(.dat (.sl 2 (h.b.map encPay))), (.dat (.sl 4 (h.h.map encHold)))]))]) (True ∧ True ∧ True ∧ (True ∧ D.int .i64 ((l.map encPay).length : Int) = (I ((l.length : Nat) : Int))) ∧ True ∧ True ∧ True) (by kernel_rfl) ⟨trivial, trivial, trivial, ⟨trivial, by rw [List.length_map]⟩, trivial, trivial, trivial⟩ ?_
    refine T_block ?_
    refine T_turn [] [1, 2, 5, 11, 12, 13] [] ((fun ((k, n, e) : Nat × Int × Pay) => (mk 55 [(1, (dt (.sl 2 (l.map encPay)))), (2, (.one (.ref 2 0))), (5, (dt (I n))), (11, (dt (.sl 2 (l.map encPay)))), (12, (dt (I ((l.length : Nat) : Int)))), (13, (dt (I ((k : Nat) : Int))))] [(2, (.var [(.dat (.sl 2 (h.b.map encPay))), (.dat (.sl 4 (h.h.map encHold)))]))])) (0, 0, ⟨0, 0⟩)) (by kernel_rfl) (T_loop (α := Nat × Int × Pay) (fun ((k, n, e) : Nat × Int × Pay) => (mk 55 [(1, (dt (.sl 2 (l.map encPay)))), (2, (.one (.ref 2 0))), (5, (dt (I n))), (11, (dt (.sl 2 (l.map encPay)))), (12, (dt (I ((l.length : Nat) : Int)))), (13, (dt (I ((k : Nat) : Int))))] [(2, (.var [(.dat (.sl 2 (h.b.map encPay))), (.dat (.sl 4 (h.h.map encHold)))]))])) (fun ((k, n, e) : Nat × Int × Pay) => (k ≤ (l).length) ∧ (payLoop (hasB h) (prevOf k e.c) n (l.drop k) = payLoop (hasB h) none 0 l) ∧ (0 < k → l[k - 1]? = some e) ∧ True) (fun ((k, n, e) : Nat × Int × Pay) => (l).length - k) (0, 0, ⟨0, 0⟩) ⟨Nat.zero_le _, rfl, fun h => absurd h (Nat.lt_irrefl _), trivial⟩ ?_)
    rintro ⟨k, n, e⟩ ⟨ik, iv, ip2, _⟩
    refine T_reg [] [1, 2, 5, 11, 12, 13, 14] [] (mk 55 [(1, (dt (.sl 2 (l.map encPay)))), (2, (.one (.ref 2 0))), (5, (dt (I n))), (11, (dt (.sl 2 (l.map encPay)))), (12, (dt (I ((l.length : Nat) : Int)))), (13, (dt (I ((k : Nat) : Int)))), (14, (dt (B (decide (((k : Nat) : Int) < ((l.length : Nat) : Int))))))] [(2, (.var [(.dat (.sl 2 (h.b.map encPay))), (.dat (.sl 4 (h.h.map encHold)))]))]) (True ∧ True ∧ True) (by kernel_rfl) ⟨trivial, trivial, trivial⟩ ?_
    refine T_seq ?_
    refine T_cond (decide (((k : Nat) : Int) < ((l.length : Nat) : Int))) (by kernel_rfl) (fun h4 => ?_) (fun h4 => ?_)
    · skip
      have g5 : ((k : Nat) : Int) < ((l.length : Nat) : Int) := of_decide_eq_true (h4)
      refine T_skip ?_
      refine T_seq ?_
      refine T_block ?_
      have lt6 : k < (l).length := by first | omega | (simp only [List.length_set, List.length_map, List.length_append, List.length_cons, List.length_nil] at *; omega)
      obtain ⟨x7, hx8⟩ : ∃ x, (l)[k]? = some x := ⟨_, List.getElem?_eq_getElem lt6⟩
      refine T_reg [{}, { d := some (.agg [(I x7.c), (I x7.a)]) }] [1, 2, 5, 6, 7, 11, 12, 13] [] (mk 55 [(1, (dt (.sl 2 (l.map encPay)))), (2, (.one (.ref 2 0))), (5, (dt (I n))), (6, (dt (I ((k : Nat) : Int)))), (7, (.one (.ref 7 0))), (11, (dt (.sl 2 (l.map encPay)))), (12, (dt (I ((l.length : Nat) : Int)))), (13, (dt (I ((k : Nat) : Int))))] [(7, (.var [(.dat (I x7.c)), (.dat (I x7.a))])), (2, (.var [(.dat (.sl 2 (h.b.map encPay))), (.dat (.sl 4 (h.h.map encHold)))]))]) (True ∧ True ∧ True ∧ (0 ≤ ((k : Nat) : Int) ∧ (l.map encPay)[k]? = some (.agg [(I x7.c), (I x7.a)])) ∧ True ∧ True ∧ True ∧ True ∧ True ∧ True ∧ True ∧ True ∧ True) (by kernel_rfl) ⟨trivial, trivial, trivial, ⟨by omega, by rw [List.getElem?_map, hx8]; rfl⟩, trivial, trivial, trivial, trivial, trivial, trivial, trivial, trivial, trivial⟩ ?_
      refine T_seq ?_
      rcases Bool.eq_false_or_eq_true (!(hasB h x7.c)) with h9 | h9
      · skip
        have n10 : (hasB h x7.c) = false := not_t h9
        refine T_regD 30 [{}, {}, {}, { d := some (B (hasB h x7.c)) }, {}, {}, { g := false }, { g := false }, { g := false }, { d := some (B true) }, {}, { g := false }, { g := false }, { g := false }, { d := some (B true) }, {}, { g := false }, { g := false }, { g := false }, {}, {}, {}, {}, {}, {}, {}, {}, {}, { g := false }, { d := some (B true) }] [1, 2, 5, 7, 11, 12, 13, 47] [] (mk 55 [(1, (dt (.sl 2 (l.map encPay)))), (2, (.one (.ref 2 0))), (5, (dt (I n))), (7, (.one (.ref 7 0))), (11, (dt (.sl 2 (l.map encPay)))), (12, (dt (I ((l.length : Nat) : Int)))), (13, (dt (I ((k : Nat) : Int)))), (47, (dt (B true)))] [(7, (.var [(.dat (I x7.c)), (.dat (I x7.a))])), (2, (.var [(.dat (.sl 2 (h.b.map encPay))), (.dat (.sl 4 (h.h.map encHold)))]))]) ((True ∧ True ∧ True ∧ True ∧ True ∧ True ∧ True ∧ (Ret Try.prog 40 [(.agg [(.sl 2 (h.b.map encPay)), (.sl 4 (h.h.map encHold))]), (I x7.c)] (B (hasB h x7.c))) ∧ True ∧ True ∧ True ∧ True ∧ (((!(hasB h x7.c)) == false) = false) ∧ (((!(hasB h x7.c)) == false) = false) ∧ (((!(hasB h x7.c)) == false) = false) ∧ True ∧ ((!(hasB h x7.c)) = true) ∧ True ∧ True ∧ ((true == false) = false) ∧ ((true == false) = false) ∧ ((true == false) = false) ∧ True ∧ (true = true) ∧ True ∧ True ∧ ((true == false) = false) ∧ ((true == false) = false) ∧ ((true == false) = false) ∧ True ∧ True ∧ True ∧ True ∧ True ∧ True ∧ True ∧ True ∧ True ∧ ((true == false) = false) ∧ True ∧ (true = true) ∧ True) ∧ True) (by kernel_rfl) (by kernel_rfl) (by kernel_rfl) ⟨⟨trivial, trivial, trivial, trivial, trivial, trivial, trivial, (ret_hasAccount h hb _), trivial, trivial, trivial, trivial, (by rw [show (!(hasB h x7.c)) = true from h9]; rfl), (by rw [show (!(hasB h x7.c)) = true from h9]; rfl), (by rw [show (!(hasB h x7.c)) = true from h9]; rfl), trivial, h9, trivial, trivial, (by rw [show true = true from rfl]; rfl), (by rw [show true = true from rfl]; rfl), (by rw [show true = true from rfl]; rfl), trivial, rfl, trivial, trivial, (by rw [show true = true from rfl]; rfl), (by rw [show true = true from rfl]; rfl), (by rw [show true = true from rfl]; rfl), trivial, trivial, trivial, trivial, trivial, trivial, trivial, trivial, trivial, (by rw [show true = true from rfl]; rfl), trivial, rfl, trivial⟩, trivial⟩ ?_
        refine T_cond true (by kernel_rfl) (fun _ => ?_) (fun h => absurd (h.symm.trans rfl) (by decide))
        refine T_reg [] [4] [7, 2] (mk 55 [(4, (dt (B false)))] []) (True ∧ True ∧ True) (by kernel_rfl) ⟨trivial, trivial, trivial⟩ ?_
        refine T_ret ?_
        exact ret_here [(dt (B false))] (by kernel_rfl) (.inl (congrArg B (by first | (rw [paysOK, if_pos (by omega)]; done) | (rw [paysOK, if_neg (by omega), ← iv]; first | exact payLoop_end (by omega) | exact payLoop_stop (by assumption) (by first | exact .inl (by assumption) | exact .inr (by omega))) : false = (paysOK (hasB h) l))))
      · skip
        have n11 : (hasB h x7.c) = true := not_f h9
        rcases Bool.eq_false_or_eq_true (decide (x7.a < 1)) with h12 | h12
        · skip
          have g13 : x7.a < 1 := of_decide_eq_true (h12)
          refine T_regD 30 [{}, {}, {}, { d := some (B (hasB h x7.c)) }, {}, {}, {}, {}, {}, { d := some (B false) }, {}, { g := false }, { g := false }, { g := false }, { d := some (B true) }, {}, { g := false }, { g := false }, { g := false }, {}, {}, {}, {}, {}, {}, {}, {}, {}, { g := false }, { d := some (B true) }] [1, 2, 5, 7, 11, 12, 13, 47] [] (mk 55 [(1, (dt (.sl 2 (l.map encPay)))), (2, (.one (.ref 2 0))), (5, (dt (I n))), (7, (.one (.ref 7 0))), (11, (dt (.sl 2 (l.map encPay)))), (12, (dt (I ((l.length : Nat) : Int)))), (13, (dt (I ((k : Nat) : Int)))), (47, (dt (B true)))] [(7, (.var [(.dat (I x7.c)), (.dat (I x7.a))])), (2, (.var [(.dat (.sl 2 (h.b.map encPay))), (.dat (.sl 4 (h.h.map encHold)))]))]) ((True ∧ True ∧ True ∧ True ∧ True ∧ True ∧ True ∧ (Ret Try.prog 40 [(.agg [(.sl 2 (h.b.map encPay)), (.sl 4 (h.h.map encHold))]), (I x7.c)] (B (hasB h x7.c))) ∧ True ∧ True ∧ True ∧ True ∧ (((!(hasB h x7.c)) == false) = true) ∧ True ∧ (((!(hasB h x7.c)) == false) = true) ∧ True ∧ (((!(hasB h x7.c)) == false) = true) ∧ True ∧ True ∧ ((!(hasB h x7.c)) = false) ∧ True ∧ True ∧ (((decide (x7.a < 1)) == false) = false) ∧ (((decide (x7.a < 1)) == false) = false) ∧ (((decide (x7.a < 1)) == false) = false) ∧ True ∧ ((decide (x7.a < 1)) = true) ∧ True ∧ True ∧ ((true == false) = false) ∧ ((true == false) = false) ∧ ((true == false) = false) ∧ True ∧ True ∧ True ∧ True ∧ True ∧ True ∧ True ∧ True ∧ True ∧ ((true == false) = false) ∧ True ∧ (true = true) ∧ True) ∧ True) (by kernel_rfl) (by kernel_rfl) (by kernel_rfl) ⟨⟨trivial, trivial, trivial, trivial, trivial, trivial, trivial, (ret_hasAccount h hb _), trivial, trivial, trivial, trivial, (by rw [show (!(hasB h x7.c)) = false from h9]; rfl), trivial, (by rw [show (!(hasB h x7.c)) = false from h9]; rfl), trivial, (by rw [show (!(hasB h x7.c)) = false from h9]; rfl), trivial, trivial, h9, trivial, trivial, (by rw [show (decide (x7.a < 1)) = true from h12]; rfl), (by rw [show (decide (x7.a < 1)) = true from h12]; rfl), (by rw [show (decide (x7.a < 1)) = true from h12]; rfl), trivial, h12, trivial, trivial, (by rw [show true = true from rfl]; rfl), (by rw [show true = true from rfl]; rfl), (by rw [show true = true from rfl]; rfl), trivial, trivial, trivial, trivial, trivial, trivial, trivial, trivial, trivial, (by rw [show true = true from rfl]; rfl), trivial, rfl, trivial⟩, trivial⟩ ?_
          refine T_cond true (by kernel_rfl) (fun _ => ?_) (fun h => absurd (h.symm.trans rfl) (by decide))
          refine T_reg [] [4] [7, 2] (mk 55 [(4, (dt (B false)))] []) (True ∧ True ∧ True) (by kernel_rfl) ⟨trivial, trivial, trivial⟩ ?_
          refine T_ret ?_
          exact ret_here [(dt (B false))] (by kernel_rfl) (.inl (congrArg B (by first | (rw [paysOK, if_pos (by omega)]; done) | (rw [paysOK, if_neg (by omega), ← iv]; first | exact payLoop_end (by omega) | exact payLoop_stop (by assumption) (by first | exact .inl (by assumption) | exact .inr (by omega))) : false = (paysOK (hasB h) l))))
        · skip
          have g14 : ¬ (x7.a < 1) := of_decide_eq_false (h12)
          rcases Bool.eq_false_or_eq_true (decide (x7.a > 1125899906842624)) with h15 | h15
          · skip
            have g16 : x7.a > 1125899906842624 := of_decide_eq_true (h15)
            refine T_regD 30 [{}, {}, {}, { d := some (B (hasB h x7.c)) }, {}, {}, {}, {}, {}, { d := some (B false) }, {}, {}, {}, {}, { d := some (B false) }, {}, { g := false }, { g := false }, { g := false }, {}, {}, {}, {}, {}, {}, {}, {}, {}, { g := false }, { d := some (B true) }] [1, 2, 5, 7, 11, 12, 13, 47] [] (mk 55 [(1, (dt (.sl 2 (l.map encPay)))), (2, (.one (.ref 2 0))), (5, (dt (I n))), (7, (.one (.ref 7 0))), (11, (dt (.sl 2 (l.map encPay)))), (12, (dt (I ((l.length : Nat) : Int)))), (13, (dt (I ((k : Nat) : Int)))), (47, (dt (B true)))] [(7, (.var [(.dat (I x7.c)), (.dat (I x7.a))])), (2, (.var [(.dat (.sl 2 (h.b.map encPay))), (.dat (.sl 4 (h.h.map encHold)))]))]) ((True ∧ True ∧ True ∧ True ∧ True ∧ True ∧ True ∧ (Ret Try.prog 40 [(.agg [(.sl 2 (h.b.map encPay)), (.sl 4 (h.h.map encHold))]), (I x7.c)] (B (hasB h x7.c))) ∧ True ∧ True ∧ True ∧ True ∧ (((!(hasB h x7.c)) == false) = true) ∧ True ∧ (((!(hasB h x7.c)) == false) = true) ∧ True ∧ (((!(hasB h x7.c)) == false) = true) ∧ True ∧ True ∧ ((!(hasB h x7.c)) = false) ∧ True ∧ True ∧ (((decide (x7.a < 1)) == false) = true) ∧ True ∧ (((decide (x7.a < 1)) == false) = true) ∧ True ∧ (((decide (x7.a < 1)) == false) = true) ∧ True ∧ True ∧ ((decide (x7.a < 1)) = false) ∧ True ∧ True ∧ (((decide (x7.a > 1125899906842624)) == false) = false) ∧ (((decide (x7.a > 1125899906842624)) == false) = false) ∧ (((decide (x7.a > 1125899906842624)) == false) = false) ∧ True ∧ True ∧ True ∧ True ∧ True ∧ True ∧ True ∧ True ∧ True ∧ (((decide (x7.a > 1125899906842624)) == false) = false) ∧ True ∧ ((decide (x7.a > 1125899906842624)) = true) ∧ True) ∧ True) (by kernel_rfl) (by kernel_rfl) (by kernel_rfl) ⟨⟨trivial, trivial, trivial, trivial, trivial, trivial, trivial, (ret_hasAccount h hb _), trivial, trivial, trivial, trivial, (by rw [show (!(hasB h x7.c)) = false from h9]; rfl), trivial, (by rw [show (!(hasB h x7.c)) = false from h9]; rfl), trivial, (by rw [show (!(hasB h x7.c)) = false from h9]; rfl), trivial, trivial, h9, trivial, trivial, (by rw [show (decide (x7.a < 1)) = false from h12]; rfl), trivial, (by rw [show (decide (x7.a < 1)) = false from h12]; rfl), trivial, (by rw [show (decide (x7.a < 1)) = false from h12]; rfl), trivial, trivial, h12, trivial, trivial, (by rw [show (decide (x7.a > 1125899906842624)) = true from h15]; rfl), (by rw [show (decide (x7.a > 1125899906842624)) = true from h15]; rfl), (by rw [show (decide (x7.a > 1125899906842624)) = true from h15]; rfl), trivial, trivial, trivial, trivial, trivial, trivial, trivial, trivial, trivial, (by rw [show (decide (x7.a > 1125899906842624)) = true from h15]; rfl), trivial, h15, trivial⟩, trivial⟩ ?_
            refine T_cond true (by kernel_rfl) (fun _ => ?_) (fun h => absurd (h.symm.trans rfl) (by decide))
            refine T_reg [] [4] [7, 2] (mk 55 [(4, (dt (B false)))] []) (True ∧ True ∧ True) (by kernel_rfl) ⟨trivial, trivial, trivial⟩ ?_
            refine T_ret ?_
            exact ret_here [(dt (B false))] (by kernel_rfl) (.inl (congrArg B (by first | (rw [paysOK, if_pos (by omega)]; done) | (rw [paysOK, if_neg (by omega), ← iv]; first | exact payLoop_end (by omega) | exact payLoop_stop (by assumption) (by first | exact .inl (by assumption) | exact .inr (by omega))) : false = (paysOK (hasB h) l))))
          · skip
            have g17 : ¬ (x7.a > 1125899906842624) := of_decide_eq_false (h15)
            rcases Bool.eq_false_or_eq_true (decide (((k : Nat) : Int) > 0)) with h18 | h18
            · skip
              have g19 : ((k : Nat) : Int) > 0 := of_decide_eq_true (h18)
              refine T_regD 30 [{}, {}, {}, { d := some (B (hasB h x7.c)) }, {}, {}, {}, {}, {}, { d := some (B false) }, {}, {}, {}, {}, { d := some (B false) }, {}, {}, {}, {}, {}, {}, {}, {}, { d := some (I (((k : Nat) : Int) - 1)) }, { d := some (.agg [(I e.c), (I e.a)]) }, {}, {}, {}, { d := some (B true) }, { d := some (B false) }] [1, 2, 5, 7, 11, 12, 13, 47] [] (mk 55 [(1, (dt (.sl 2 (l.map encPay)))), (2, (.one (.ref 2 0))), (5, (dt (I n))), (7, (.one (.ref 7 0))), (11, (dt (.sl 2 (l.map encPay)))), (12, (dt (I ((l.length : Nat) : Int)))), (13, (dt (I ((k : Nat) : Int)))), (47, (dt (B (decide (x7.c ≤ e.c)))))] [(7, (.var [(.dat (I x7.c)), (.dat (I x7.a))])), (2, (.var [(.dat (.sl 2 (h.b.map encPay))), (.dat (.sl 4 (h.h.map encHold)))]))]) ((True ∧ True ∧ True ∧ True ∧ True ∧ True ∧ True ∧ (Ret Try.prog 40 [(.agg [(.sl 2 (h.b.map encPay)), (.sl 4 (h.h.map encHold))]), (I x7.c)] (B (hasB h x7.c))) ∧ True ∧ True ∧ True ∧ True ∧ (((!(hasB h x7.c)) == false) = true) ∧ True ∧ (((!(hasB h x7.c)) == false) = true) ∧ True ∧ (((!(hasB h x7.c)) == false) = true) ∧ True ∧ True ∧ ((!(hasB h x7.c)) = false) ∧ True ∧ True ∧ (((decide (x7.a < 1)) == false) = true) ∧ True ∧ (((decide (x7.a < 1)) == false) = true) ∧ True ∧ (((decide (x7.a < 1)) == false) = true) ∧ True ∧ True ∧ ((decide (x7.a < 1)) = false) ∧ True ∧ True ∧ (((decide (x7.a > 1125899906842624)) == false) = true) ∧ True ∧ (((decide (x7.a > 1125899906842624)) == false) = true) ∧ True ∧ (((decide (x7.a > 1125899906842624)) == false) = true) ∧ True ∧ (((decide (((k : Nat) : Int) > 0)) == true) = true) ∧ True ∧ (((decide (((k : Nat) : Int) > 0)) == true) = true) ∧ True ∧ (((decide (((k : Nat) : Int) > 0)) == true) = true) ∧ True ∧ (((decide (((k : Nat) : Int) > 0)) == true) = true) ∧ True ∧ (((decide (((k : Nat) : Int) > 0)) == true) = true) ∧ (IntKind.i64.wrap (((k : Nat) : Int) - 1) = (((k : Nat) : Int) - 1)) ∧ (((decide (((k : Nat) : Int) > 0)) == true) = true) ∧ (0 ≤ (((k : Nat) : Int) - 1) ∧ (l.map encPay)[((((k : Nat) : Int) - 1)).toNat]? = some (.agg [(I e.c), (I e.a)])) ∧ (((decide (((k : Nat) : Int) > 0)) == true) = true) ∧ True ∧ (((decide (((k : Nat) : Int) > 0)) == true) = true) ∧ True ∧ (((decide (((k : Nat) : Int) > 0)) == true) = true) ∧ True ∧ (((decide (x7.a > 1125899906842624)) == false) = true) ∧ ((decide (((k : Nat) : Int) > 0)) = true) ∧ True ∧ ((decide (x7.a > 1125899906842624)) = false) ∧ True) ∧ True) (by kernel_rfl) (by kernel_rfl) (by kernel_rfl) ⟨⟨trivial, trivial, trivial, trivial, trivial, trivial, trivial, (ret_hasAccount h hb _), trivial, trivial, trivial, trivial, (by rw [show (!(hasB h x7.c)) = false from h9]; rfl), trivial, (by rw [show (!(hasB h x7.c)) = false from h9]; rfl), trivial, (by rw [show (!(hasB h x7.c)) = false from h9]; rfl), trivial, trivial, h9, trivial, trivial, (by rw [show (decide (x7.a < 1)) = false from h12]; rfl), trivial, (by rw [show (decide (x7.a < 1)) = false from h12]; rfl), trivial, (by rw [show (decide (x7.a < 1)) = false from h12]; rfl), trivial, trivial, h12, trivial, trivial, (by rw [show (decide (x7.a > 1125899906842624)) = false from h15]; rfl), trivial, (by rw [show (decide (x7.a > 1125899906842624)) = false from h15]; rfl), trivial, (by rw [show (decide (x7.a > 1125899906842624)) = false from h15]; rfl), trivial, (by rw [show (decide (((k : Nat) : Int) > 0)) = true from h18]; rfl), trivial, (by rw [show (decide (((k : Nat) : Int) > 0)) = true from h18]; rfl), trivial, (by rw [show (decide (((k : Nat) : Int) > 0)) = true from h18]; rfl), trivial, (by rw [show (decide (((k : Nat) : Int) > 0)) = true from h18]; rfl), trivial, (by rw [show (decide (((k : Nat) : Int) > 0)) = true from h18]; rfl), (i64_wrap (by omega) (by omega)), (by rw [show (decide (((k : Nat) : Int) > 0)) = true from h18]; rfl), ⟨by omega, by rw [show ((((k : Nat) : Int) - 1)).toNat = k - 1 from by omega]; rw [List.getElem?_map, (ip2 (by omega))]; rfl⟩, (by rw [show (decide (((k : Nat) : Int) > 0)) = true from h18]; rfl), trivial, (by rw [show (decide (((k : Nat) : Int) > 0)) = true from h18]; rfl), trivial, (by rw [show (decide (((k : Nat) : Int) > 0)) = true from h18]; rfl), trivial, (by rw [show (decide (x7.a > 1125899906842624)) = false from h15]; rfl), h18, trivial, h15, trivial⟩, trivial⟩ ?_
              refine T_cond (decide (x7.c ≤ e.c)) (by kernel_rfl) (fun h20 => ?_) (fun h20 => ?_)
              · skip
                have g21 : x7.c ≤ e.c := of_decide_eq_true (h20)
                refine T_reg [] [4] [7, 2] (mk 55 [(4, (dt (B false)))] []) (True ∧ True ∧ True) (by kernel_rfl) ⟨trivial, trivial, trivial⟩ ?_
                refine T_ret ?_
                exact ret_here [(dt (B false))] (by kernel_rfl) (.inl (congrArg B (by first | (rw [paysOK, if_pos (by omega)]; done) | (rw [paysOK, if_neg (by omega), ← iv]; first | exact payLoop_end (by omega) | exact payLoop_stop (by assumption) (by first | exact .inl (by assumption) | exact .inr (by omega))) : false = (paysOK (hasB h) l))))
              · skip
                have g22 : ¬ (x7.c ≤ e.c) := of_decide_eq_false (h20)
                refine T_skip ?_
                refine T_regE [] (mk 55 [(1, (dt (.sl 2 (l.map encPay)))), (2, (.one (.ref 2 0))), (5, (dt (I (IntKind.i64.wrap (n + x7.a))))), (7, (.one (.ref 7 0))), (11, (dt (.sl 2 (l.map encPay)))), (12, (dt (I ((l.length : Nat) : Int)))), (13, (dt (I ((k : Nat) : Int)))), (47, (dt (B (decide (x7.c ≤ e.c))))), (48, (dt (I n))), (49, (.one (.ref 7 1))), (50, (dt (I x7.a))), (51, (dt (I (IntKind.i64.wrap (n + x7.a)))))] [(7, (.var [(.dat (I x7.c)), (.dat (I x7.a))])), (2, (.var [(.dat (.sl 2 (h.b.map encPay))), (.dat (.sl 4 (h.h.map encHold)))]))]) (True ∧ True ∧ True ∧ True ∧ True ∧ True ∧ True ∧ True ∧ True ∧ True ∧ True) (by kernel_rfl) ⟨trivial, trivial, trivial, trivial, trivial, trivial, trivial, trivial, trivial, trivial, trivial⟩ ?_
                refine T_regE [{ d := some (I ((k + 1 : Nat) : Int)) }] (mk 55 [(1, (dt (.sl 2 (l.map encPay)))), (2, (.one (.ref 2 0))), (5, (dt (I (IntKind.i64.wrap (n + x7.a))))), (7, (.one (.ref 7 0))), (11, (dt (.sl 2 (l.map encPay)))), (12, (dt (I ((l.length : Nat) : Int)))), (13, (dt (I ((k + 1 : Nat) : Int)))), (47, (dt (B (decide (x7.c ≤ e.c))))), (48, (dt (I n))), (49, (.one (.ref 7 1))), (50, (dt (I x7.a))), (51, (dt (I (IntKind.i64.wrap (n + x7.a))))), (52, (dt (I ((k + 1 : Nat) : Int))))] [(7, (.var [(.dat (I x7.c)), (.dat (I x7.a))])), (2, (.var [(.dat (.sl 2 (h.b.map encPay))), (.dat (.sl 4 (h.h.map encHold)))]))]) (True ∧ (IntKind.i64.wrap (((k : Nat) : Int) + 1) = ((k + 1 : Nat) : Int)) ∧ True ∧ True ∧ True) (by kernel_rfl) ⟨trivial, (by rw [i64_wrap (by omega) (by omega)]; omega), trivial, trivial, trivial⟩ ?_
                refine Exists.intro (k + 1, (IntKind.i64.wrap (n + x7.a)), x7) ⟨⟨by omega, by rw [← iv]; exact payLoop_step hx8 (by assumption) (by assumption) (by assumption) (by omega), fun _ => by simpa using hx8, trivial⟩, by first | omega | (dsimp only; omega), le_turn [] [1, 2, 5, 11, 12, 13] [7] (by kernel_rfl)⟩
            · skip
              have g23 : ¬ (((k : Nat) : Int) > 0) := of_decide_eq_false (h18)
              refine T_regD 30 [{}, {}, {}, { d := some (B (hasB h x7.c)) }, {}, {}, {}, {}, {}, { d := some (B false) }, {}, {}, {}, {}, { d := some (B false) }, {}, {}, {}, {}, { g := false }, { g := false }, { g := false }, { g := false }, { g := false }, { g := false }, { g := false }, { g := false }, { g := false }, { d := some (B false) }, { d := some (B false) }] [1, 2, 5, 7, 11, 12, 13, 47] [] (mk 55 [(1, (dt (.sl 2 (l.map encPay)))), (2, (.one (.ref 2 0))), (5, (dt (I n))), (7, (.one (.ref 7 0))), (11, (dt (.sl 2 (l.map encPay)))), (12, (dt (I ((l.length : Nat) : Int)))), (13, (dt (I ((k : Nat) : Int)))), (47, (dt (B false)))] [(7, (.var [(.dat (I x7.c)), (.dat (I x7.a))])), (2, (.var [(.dat (.sl 2 (h.b.map encPay))), (.dat (.sl 4 (h.h.map encHold)))]))]) ((True ∧ True ∧ True ∧ True ∧ True ∧ True ∧ True ∧ (Ret Try.prog 40 [(.agg [(.sl 2 (h.b.map encPay)), (.sl 4 (h.h.map encHold))]), (I x7.c)] (B (hasB h x7.c))) ∧ True ∧ True ∧ True ∧ True ∧ (((!(hasB h x7.c)) == false) = true) ∧ True ∧ (((!(hasB h x7.c)) == false) = true) ∧ True ∧ (((!(hasB h x7.c)) == false) = true) ∧ True ∧ True ∧ ((!(hasB h x7.c)) = false) ∧ True ∧ True ∧ (((decide (x7.a < 1)) == false) = true) ∧ True ∧ (((decide (x7.a < 1)) == false) = true) ∧ True ∧ (((decide (x7.a < 1)) == false) = true) ∧ True ∧ True ∧ ((decide (x7.a < 1)) = false) ∧ True ∧ True ∧ (((decide (x7.a > 1125899906842624)) == false) = true) ∧ True ∧ (((decide (x7.a > 1125899906842624)) == false) = true) ∧ True ∧ (((decide (x7.a > 1125899906842624)) == false) = true) ∧ True ∧ (((decide (((k : Nat) : Int) > 0)) == true) = false) ∧ (((decide (((k : Nat) : Int) > 0)) == true) = false) ∧ (((decide (((k : Nat) : Int) > 0)) == true) = false) ∧ (((decide (((k : Nat) : Int) > 0)) == true) = false) ∧ (((decide (((k : Nat) : Int) > 0)) == true) = false) ∧ (((decide (((k : Nat) : Int) > 0)) == true) = false) ∧ (((decide (((k : Nat) : Int) > 0)) == true) = false) ∧ (((decide (((k : Nat) : Int) > 0)) == true) = false) ∧ (((decide (((k : Nat) : Int) > 0)) == true) = false) ∧ (((decide (x7.a > 1125899906842624)) == false) = true) ∧ ((decide (((k : Nat) : Int) > 0)) = false) ∧ True ∧ ((decide (x7.a > 1125899906842624)) = false) ∧ True) ∧ True) (by kernel_rfl) (by kernel_rfl) (by kernel_rfl) ⟨⟨trivial, trivial, trivial, trivial, trivial, trivial, trivial, (ret_hasAccount h hb _), trivial, trivial, trivial, trivial, (by rw [show (!(hasB h x7.c)) = false from h9]; rfl), trivial, (by rw [show (!(hasB h x7.c)) = false from h9]; rfl), trivial, (by rw [show (!(hasB h x7.c)) = false from h9]; rfl), trivial, trivial, h9, trivial, trivial, (by rw [show (decide (x7.a < 1)) = false from h12]; rfl), trivial, (by rw [show (decide (x7.a < 1)) = false from h12]; rfl), trivial, (by rw [show (decide (x7.a < 1)) = false from h12]; rfl), trivial, trivial, h12, trivial, trivial, (by rw [show (decide (x7.a > 1125899906842624)) = false from h15]; rfl), trivial, (by rw [show (decide (x7.a > 1125899906842624)) = false from h15]; rfl), trivial, (by rw [show (decide (x7.a > 1125899906842624)) = false from h15]; rfl), trivial, (by rw [show (decide (((k : Nat) : Int) > 0)) = false from h18]; rfl), (by rw [show (decide (((k : Nat) : Int) > 0)) = false from h18]; rfl), (by rw [show (decide (((k : Nat) : Int) > 0)) = false from h18]; rfl), (by rw [show (decide (((k : Nat) : Int) > 0)) = false from h18]; rfl), (by rw [show (decide (((k : Nat) : Int) > 0)) = false from h18]; rfl), (by rw [show (decide (((k : Nat) : Int) > 0)) = false from h18]; rfl), (by rw [show (decide (((k : Nat) : Int) > 0)) = false from h18]; rfl), (by rw [show (decide (((k : Nat) : Int) > 0)) = false from h18]; rfl), (by rw [show (decide (((k : Nat) : Int) > 0)) = false from h18]; rfl), (by rw [show (decide (x7.a > 1125899906842624)) = false from h15]; rfl), h18, trivial, h15, trivial⟩, trivial⟩ ?_
              refine T_cond false (by kernel_rfl) (fun h => absurd (h.symm.trans rfl) (by decide)) (fun _ => ?_)
              refine T_skip ?_
              refine T_regE [] (mk 55 [(1, (dt (.sl 2 (l.map encPay)))), (2, (.one (.ref 2 0))), (5, (dt (I (IntKind.i64.wrap (n + x7.a))))), (7, (.one (.ref 7 0))), (11, (dt (.sl 2 (l.map encPay)))), (12, (dt (I ((l.length : Nat) : Int)))), (13, (dt (I ((k : Nat) : Int)))), (47, (dt (B false))), (48, (dt (I n))), (49, (.one (.ref 7 1))), (50, (dt (I x7.a))), (51, (dt (I (IntKind.i64.wrap (n + x7.a)))))] [(7, (.var [(.dat (I x7.c)), (.dat (I x7.a))])), (2, (.var [(.dat (.sl 2 (h.b.map encPay))), (.dat (.sl 4 (h.h.map encHold)))]))]) (True ∧ True ∧ True ∧ True ∧ True ∧ True ∧ True ∧ True ∧ True ∧ True ∧ True) (by kernel_rfl) ⟨trivial, trivial, trivial, trivial, trivial, trivial, trivial, trivial, trivial, trivial, trivial⟩ ?_
              refine T_regE [{ d := some (I ((k + 1 : Nat) : Int)) }] (mk 55 [(1, (dt (.sl 2 (l.map encPay)))), (2, (.one (.ref 2 0))), (5, (dt (I (IntKind.i64.wrap (n + x7.a))))), (7, (.one (.ref 7 0))), (11, (dt (.sl 2 (l.map encPay)))), (12, (dt (I ((l.length : Nat) : Int)))), (13, (dt (I ((k + 1 : Nat) : Int)))), (47, (dt (B false))), (48, (dt (I n))), (49, (.one (.ref 7 1))), (50, (dt (I x7.a))), (51, (dt (I (IntKind.i64.wrap (n + x7.a))))), (52, (dt (I ((k + 1 : Nat) : Int))))] [(7, (.var [(.dat (I x7.c)), (.dat (I x7.a))])), (2, (.var [(.dat (.sl 2 (h.b.map encPay))), (.dat (.sl 4 (h.h.map encHold)))]))]) (True ∧ (IntKind.i64.wrap (((k : Nat) : Int) + 1) = ((k + 1 : Nat) : Int)) ∧ True ∧ True ∧ True) (by kernel_rfl) ⟨trivial, (by rw [i64_wrap (by omega) (by omega)]; omega), trivial, trivial, trivial⟩ ?_
              refine Exists.intro (k + 1, (IntKind.i64.wrap (n + x7.a)), x7) ⟨⟨by omega, by rw [← iv]; exact payLoop_step hx8 (by assumption) (by assumption) (by assumption) (by omega), fun _ => by simpa using hx8, trivial⟩, by first | omega | (dsimp only; omega), le_turn [] [1, 2, 5, 11, 12, 13] [7] (by kernel_rfl)⟩
    · skip
      have g24 : ¬ (((k : Nat) : Int) < ((l.length : Nat) : Int)) := of_decide_eq_false (h4)
      refine T_exit ?_
      refine T_reg [] [4] [2] (mk 55 [(4, (dt (B (decide (n ≤ 1125899906842624)))))] []) (True ∧ True ∧ True ∧ True ∧ True ∧ True ∧ True) (by kernel_rfl) ⟨trivial, trivial, trivial, trivial, trivial, trivial, trivial⟩ ?_
      refine T_ret ?_
      exact ret_here [(dt (B (decide (n ≤ 1125899906842624))))] (by kernel_rfl) (.inl (congrArg B (by first | (rw [paysOK, if_pos (by omega)]; done) | (rw [paysOK, if_neg (by omega), ← iv]; first | exact payLoop_end (by omega) | exact payLoop_stop (by assumption) (by first | exact .inl (by assumption) | exact .inr (by omega))) : (decide (n ≤ 1125899906842624)) = (paysOK (hasB h) l))))

theorem ret_isHold (h : House) (hb : h.b.length ≤ 140737488355328) (hh : h.h.length ≤ 140737488355328) (hp : ∀ x ∈ h.h, x.ps.length ≤ 140737488355328) (k : Nat) (x e : Hold) (hx : h.h[k]? = some x) (he : 0 < k → h.h[k - 1]? = some e) : Ret Try.prog 36 [(.agg [(.sl 2 (h.b.map encPay)), (.sl 4 (h.h.map encHold))]), (I ((k : Nat) : Int))] (B (holdOK (hasB h) (prevOf k e.t) x)) := by
  have hlt := (List.getElem?_eq_some_iff.1 hx).1
  refine Ret.of_T Try.func36 (by kernel_rfl) rfl ?_
  refine T_turn [] [0, 1] [] (mk 57 [(0, (.agg [(.dat (.sl 2 (h.b.map encPay))), (.dat (.sl 4 (h.h.map encHold)))])), (1, (dt (I ((k : Nat) : Int))))] []) (by kernel_rfl) ?_
  refine T_reg [] [1, 2] [] (mk 57 [(1, (dt (I ((k : Nat) : Int)))), (2, (.one (.ref 2 0)))] [(2, (.var [(.dat (.sl 2 (h.b.map encPay))), (.dat (.sl 4 (h.h.map encHold)))]))]) (True ∧ True ∧ True ∧ True ∧ True) (by kernel_rfl) ⟨trivial, trivial, trivial, trivial, trivial⟩ ?_
  refine T_reg [{}, {}, {}, { d := some (.agg [(I x.t), (I x.p), (.sl 2 (x.ps.map encPay)), (I x.s)]) }] [1, 2, 5] [] (mk 57 [(1, (dt (I ((k : Nat) : Int)))), (2, (.one (.ref 2 0))), (5, (.one (.ref 5 0)))] [(5, (.var [(.dat (I x.t)), (.dat (I x.p)), (.dat (.sl 2 (x.ps.map encPay))), (.dat (I x.s))])), (2, (.var [(.dat (.sl 2 (h.b.map encPay))), (.dat (.sl 4 (h.h.map encHold)))]))]) (True ∧ True ∧ True ∧ True ∧ True ∧ True ∧ True ∧ (0 ≤ ((k : Nat) : Int) ∧ (h.h.map encHold)[k]? = some (.agg [(I x.t), (I x.p), (.sl 2 (x.ps.map encPay)), (I x.s)])) ∧ True ∧ True ∧ True ∧ True ∧ True ∧ True ∧ True) (by kernel_rfl) ⟨trivial, trivial, trivial, trivial, trivial, trivial, trivial, ⟨by omega, by rw [List.getElem?_map, hx]; rfl⟩, trivial, trivial, trivial, trivial, trivial, trivial, trivial⟩ ?_
  rcases Bool.eq_false_or_eq_true (decide (x.t ≥ 1)) with h1 | h1
  · skip
    have g2 : x.t ≥ 1 := of_decide_eq_true (h1)
    rcases Bool.eq_false_or_eq_true (decide (x.t ≤ 4096)) with h3 | h3
    · skip
      have g4 : x.t ≤ 4096 := of_decide_eq_true (h3)
      rcases Bool.eq_false_or_eq_true (((k : Nat) : Int) == 0) with h5 | h5
      · skip
        have g6 : ((k : Nat) : Int) = 0 := eq_of_beq (h5)
        rcases Bool.eq_false_or_eq_true (hasB h x.p) with h7 | h7
        · skip
          rcases Bool.eq_false_or_eq_true (paysOK (hasB h) x.ps) with h8 | h8
          · skip
            rcases Bool.eq_false_or_eq_true (decide (x.s ≥ 1)) with h9 | h9
            · skip
              have g10 : x.s ≥ 1 := of_decide_eq_true (h9)
              refine T_regD 47 [{}, {}, {}, {}, {}, {}, {}, { d := some (B true) }, {}, {}, {}, {}, { g := false }, { g := false }, { g := false }, { g := false }, { g := false }, { g := false }, { g := false }, { g := false }, { g := false }, { g := false }, { d := some (B true) }, { d := some (B true) }, {}, {}, {}, {}, { d := some (B (hasB h x.p)) }, { d := some (B true) }, {}, {}, {}, {}, { d := some (B (paysOK (hasB h) x.ps)) }, { d := some (B true) }, {}, {}, {}, {}, { d := some (B true) }, {}, {}, {}, {}, { d := some (B true) }] [4] [5, 2] (mk 57 [(4, (dt (B (decide (x.s ≤ 3)))))] []) ((True ∧ True ∧ True ∧ True ∧ True ∧ True ∧ True ∧ True ∧ (((decide (x.t ≥ 1)) == true) = true) ∧ True ∧ (((decide (x.t ≥ 1)) == true) = true) ∧ True ∧ (((decide (x.t ≥ 1)) == true) = true) ∧ True ∧ True ∧ ((decide (x.t ≥ 1)) = true) ∧ True ∧ True ∧ (((decide (x.t ≤ 4096)) == true) = true) ∧ True ∧ (((decide (x.t ≤ 4096)) == true) = true) ∧ True ∧ (((decide (x.t ≤ 4096)) == true) = true) ∧ True ∧ (((((k : Nat) : Int) == 0) == false) = false) ∧ (((((k : Nat) : Int) == 0) == false) = false) ∧ (((((k : Nat) : Int) == 0) == false) = false) ∧ (((((k : Nat) : Int) == 0) == false) = false) ∧ (((((k : Nat) : Int) == 0) == false) = false) ∧ (((((k : Nat) : Int) == 0) == false) = false) ∧ (((((k : Nat) : Int) == 0) == false) = false) ∧ (((((k : Nat) : Int) == 0) == false) = false) ∧ (((((k : Nat) : Int) == 0) == false) = false) ∧ (((((k : Nat) : Int) == 0) == false) = false) ∧ (((decide (x.t ≤ 4096)) == true) = true) ∧ ((((k : Nat) : Int) == 0) = true) ∧ True ∧ ((decide (x.t ≤ 4096)) = true) ∧ True ∧ True ∧ ((true == true) = true) ∧ True ∧ ((true == true) = true) ∧ True ∧ ((true == true) = true) ∧ True ∧ ((true == true) = true) ∧ (Ret Try.prog 40 [(.agg [(.sl 2 (h.b.map encPay)), (.sl 4 (h.h.map encHold))]), (I x.p)] (B (hasB h x.p))) ∧ True ∧ (true = true) ∧ True ∧ True ∧ (((hasB h x.p) == true) = true) ∧ True ∧ (((hasB h x.p) == true) = true) ∧ True ∧ (((hasB h x.p) == true) = true) ∧ True ∧ (((hasB h x.p) == true) = true) ∧ (Ret Try.prog 45 [(.agg [(.sl 2 (h.b.map encPay)), (.sl 4 (h.h.map encHold))]), (.sl 2 (x.ps.map encPay))] (B (paysOK (hasB h) x.ps))) ∧ True ∧ ((hasB h x.p) = true) ∧ True ∧ True ∧ (((paysOK (hasB h) x.ps) == true) = true) ∧ True ∧ (((paysOK (hasB h) x.ps) == true) = true) ∧ True ∧ (((paysOK (hasB h) x.ps) == true) = true) ∧ True ∧ True ∧ ((paysOK (hasB h) x.ps) = true) ∧ True ∧ True ∧ (((decide (x.s ≥ 1)) == true) = true) ∧ True ∧ (((decide (x.s ≥ 1)) == true) = true) ∧ True ∧ (((decide (x.s ≥ 1)) == true) = true) ∧ True ∧ True ∧ ((decide (x.s ≥ 1)) = true) ∧ True ∧ True ∧ True) ∧ True) (by kernel_rfl) (by kernel_rfl) (by kernel_rfl) ⟨⟨trivial, trivial, trivial, trivial, trivial, trivial, trivial, trivial, (by rw [show (decide (x.t ≥ 1)) = true from h1]; rfl), trivial, (by rw [show (decide (x.t ≥ 1)) = true from h1]; rfl), trivial, (by rw [show (decide (x.t ≥ 1)) = true from h1]; rfl), trivial, trivial, h1, trivial, trivial, (by rw [show (decide (x.t ≤ 4096)) = true from h3]; rfl), trivial, (by rw [show (decide (x.t ≤ 4096)) = true from h3]; rfl), trivial, (by rw [show (decide (x.t ≤ 4096)) = true from h3]; rfl), trivial, (by rw [show (((k : Nat) : Int) == 0) = true from h5]; rfl), (by rw [show (((k : Nat) : Int) == 0) = true from h5]; rfl), (by rw [show (((k : Nat) : Int) == 0) = true from h5]; rfl), (by rw [show (((k : Nat) : Int) == 0) = true from h5]; rfl), (by rw [show (((k : Nat) : Int) == 0) = true from h5]; rfl), (by rw [show (((k : Nat) : Int) == 0) = true from h5]; rfl), (by rw [show (((k : Nat) : Int) == 0) = true from h5]; rfl), (by rw [show (((k : Nat) : Int) == 0) = true from h5]; rfl), (by rw [show (((k : Nat) : Int) == 0) = true from h5]; rfl), (by rw [show (((k : Nat) : Int) == 0) = true from h5]; rfl), (by rw [show (decide (x.t ≤ 4096)) = true from h3]; rfl), h5, trivial, h3, trivial, trivial, (by rw [show true = true from rfl]; rfl), trivial, (by rw [show true = true from rfl]; rfl), trivial, (by rw [show true = true from rfl]; rfl), trivial, (by rw [show true = true from rfl]; rfl), (ret_hasAccount h hb _), trivial, rfl, trivial, trivial, (by rw [show (hasB h x.p) = true from h7]; rfl), trivial, (by rw [show (hasB h x.p) = true from h7]; rfl), trivial, (by rw [show (hasB h x.p) = true from h7]; rfl), trivial, (by rw [show (hasB h x.p) = true from h7]; rfl), (ret_arePayments h hb _ (by exact hp _ (List.mem_of_getElem? (by assumption)))), trivial, h7, trivial, trivial, (by rw [show (paysOK (hasB h) x.ps) = true from h8]; rfl), trivial, (by rw [show (paysOK (hasB h) x.ps) = true from h8]; rfl), trivial, (by rw [show (paysOK (hasB h) x.ps) = true from h8]; rfl), trivial, trivial, h8, trivial, trivial, (by rw [show (decide (x.s ≥ 1)) = true from h9]; rfl), trivial, (by rw [show (decide (x.s ≥ 1)) = true from h9]; rfl), trivial, (by rw [show (decide (x.s ≥ 1)) = true from h9]; rfl), trivial, trivial, h9, trivial, trivial, trivial⟩, trivial⟩ ?_
              refine T_ret ?_
              exact ret_here [(dt (B (decide (x.s ≤ 3))))] (by kernel_rfl) (.inl (congrArg B (by unfold holdOK prevOf; first | (rw [if_pos (by omega)]; simp_all [notBehind]; done) | (rw [if_neg (by omega)]; simp_all [notBehind]; done) | (simp_all [notBehind]; done) | (simp_all [notBehind]; omega) | (simp_all [notBehind]; intros; omega) : (decide (x.s ≤ 3)) = (holdOK (hasB h) (prevOf k e.t) x))))
            · skip
              have g11 : ¬ (x.s ≥ 1) := of_decide_eq_false (h9)
              refine T_regD 47 [{}, {}, {}, {}, {}, {}, {}, { d := some (B true) }, {}, {}, {}, {}, { g := false }, { g := false }, { g := false }, { g := false }, { g := false }, { g := false }, { g := false }, { g := false }, { g := false }, { g := false }, { d := some (B true) }, { d := some (B true) }, {}, {}, {}, {}, { d := some (B (hasB h x.p)) }, { d := some (B true) }, {}, {}, {}, {}, { d := some (B (paysOK (hasB h) x.ps)) }, { d := some (B true) }, {}, {}, {}, {}, { d := some (B true) }, {}, { g := false }, { g := false }, { g := false }, { d := some (B false) }] [4] [5, 2] (mk 57 [(4, (dt (B false)))] []) ((True ∧ True ∧ True ∧ True ∧ True ∧ True ∧ True ∧ True ∧ (((decide (x.t ≥ 1)) == true) = true) ∧ True ∧ (((decide (x.t ≥ 1)) == true) = true) ∧ True ∧ (((decide (x.t ≥ 1)) == true) = true) ∧ True ∧ True ∧ ((decide (x.t ≥ 1)) = true) ∧ True ∧ True ∧ (((decide (x.t ≤ 4096)) == true) = true) ∧ True ∧ (((decide (x.t ≤ 4096)) == true) = true) ∧ True ∧ (((decide (x.t ≤ 4096)) == true) = true) ∧ True ∧ (((((k : Nat) : Int) == 0) == false) = false) ∧ (((((k : Nat) : Int) == 0) == false) = false) ∧ (((((k : Nat) : Int) == 0) == false) = false) ∧ (((((k : Nat) : Int) == 0) == false) = false) ∧ (((((k : Nat) : Int) == 0) == false) = false) ∧ (((((k : Nat) : Int) == 0) == false) = false) ∧ (((((k : Nat) : Int) == 0) == false) = false) ∧ (((((k : Nat) : Int) == 0) == false) = false) ∧ (((((k : Nat) : Int) == 0) == false) = false) ∧ (((((k : Nat) : Int) == 0) == false) = false) ∧ (((decide (x.t ≤ 4096)) == true) = true) ∧ ((((k : Nat) : Int) == 0) = true) ∧ True ∧ ((decide (x.t ≤ 4096)) = true) ∧ True ∧ True ∧ ((true == true) = true) ∧ True ∧ ((true == true) = true) ∧ True ∧ ((true == true) = true) ∧ True ∧ ((true == true) = true) ∧ (Ret Try.prog 40 [(.agg [(.sl 2 (h.b.map encPay)), (.sl 4 (h.h.map encHold))]), (I x.p)] (B (hasB h x.p))) ∧ True ∧ (true = true) ∧ True ∧ True ∧ (((hasB h x.p) == true) = true) ∧ True ∧ (((hasB h x.p) == true) = true) ∧ True ∧ (((hasB h x.p) == true) = true) ∧ True ∧ (((hasB h x.p) == true) = true) ∧ (Ret Try.prog 45 [(.agg [(.sl 2 (h.b.map encPay)), (.sl 4 (h.h.map encHold))]), (.sl 2 (x.ps.map encPay))] (B (paysOK (hasB h) x.ps))) ∧ True ∧ ((hasB h x.p) = true) ∧ True ∧ True ∧ (((paysOK (hasB h) x.ps) == true) = true) ∧ True ∧ (((paysOK (hasB h) x.ps) == true) = true) ∧ True ∧ (((paysOK (hasB h) x.ps) == true) = true) ∧ True ∧ True ∧ ((paysOK (hasB h) x.ps) = true) ∧ True ∧ True ∧ (((decide (x.s ≥ 1)) == true) = false) ∧ (((decide (x.s ≥ 1)) == true) = false) ∧ (((decide (x.s ≥ 1)) == true) = false) ∧ True ∧ ((decide (x.s ≥ 1)) = false) ∧ True ∧ True ∧ True) ∧ True) (by kernel_rfl) (by kernel_rfl) (by kernel_rfl) ⟨⟨trivial, trivial, trivial, trivial, trivial, trivial, trivial, trivial, (by rw [show (decide (x.t ≥ 1)) = true from h1]; rfl), trivial, (by rw [show (decide (x.t ≥ 1)) = true from h1]; rfl), trivial, (by rw [show (decide (x.t ≥ 1)) = true from h1]; rfl), trivial, trivial, h1, trivial, trivial, (by rw [show (decide (x.t ≤ 4096)) = true from h3]; rfl), trivial, (by rw [show (decide (x.t ≤ 4096)) = true from h3]; rfl), trivial, (by rw [show (decide (x.t ≤ 4096)) = true from h3]; rfl), trivial, (by rw [show (((k : Nat) : Int) == 0) = true from h5]; rfl), (by rw [show (((k : Nat) : Int) == 0) = true from h5]; rfl), (by rw [show (((k : Nat) : Int) == 0) = true from h5]; rfl), (by rw [show (((k : Nat) : Int) == 0) = true from h5]; rfl), (by rw [show (((k : Nat) : Int) == 0) = true from h5]; rfl), (by rw [show (((k : Nat) : Int) == 0) = true from h5]; rfl), (by rw [show (((k : Nat) : Int) == 0) = true from h5]; rfl), (by rw [show (((k : Nat) : Int) == 0) = true from h5]; rfl), (by rw [show (((k : Nat) : Int) == 0) = true from h5]; rfl), (by rw [show (((k : Nat) : Int) == 0) = true from h5]; rfl), (by rw [show (decide (x.t ≤ 4096)) = true from h3]; rfl), h5, trivial, h3, trivial, trivial, (by rw [show true = true from rfl]; rfl), trivial, (by rw [show true = true from rfl]; rfl), trivial, (by rw [show true = true from rfl]; rfl), trivial, (by rw [show true = true from rfl]; rfl), (ret_hasAccount h hb _), trivial, rfl, trivial, trivial, (by rw [show (hasB h x.p) = true from h7]; rfl), trivial, (by rw [show (hasB h x.p) = true from h7]; rfl), trivial, (by rw [show (hasB h x.p) = true from h7]; rfl), trivial, (by rw [show (hasB h x.p) = true from h7]; rfl), (ret_arePayments h hb _ (by exact hp _ (List.mem_of_getElem? (by assumption)))), trivial, h7, trivial, trivial, (by rw [show (paysOK (hasB h) x.ps) = true from h8]; rfl), trivial, (by rw [show (paysOK (hasB h) x.ps) = true from h8]; rfl), trivial, (by rw [show (paysOK (hasB h) x.ps) = true from h8]; rfl), trivial, trivial, h8, trivial, trivial, (by rw [show (decide (x.s ≥ 1)) = false from h9]; rfl), (by rw [show (decide (x.s ≥ 1)) = false from h9]; rfl), (by rw [show (decide (x.s ≥ 1)) = false from h9]; rfl), trivial, h9, trivial, trivial, trivial⟩, trivial⟩ ?_
              refine T_ret ?_
              exact ret_here [(dt (B false))] (by kernel_rfl) (.inl (congrArg B (by unfold holdOK prevOf; first | (rw [if_pos (by omega)]; simp_all [notBehind]; done) | (rw [if_neg (by omega)]; simp_all [notBehind]; done) | (simp_all [notBehind]; done) | (simp_all [notBehind]; omega) | (simp_all [notBehind]; intros; omega) : false = (holdOK (hasB h) (prevOf k e.t) x))))
          · skip
            refine T_regD 47 [{}, {}, {}, {}, {}, {}, {}, { d := some (B true) }, {}, {}, {}, {}, { g := false }, { g := false }, { g := false }, { g := false }, { g := false }, { g := false }, { g := false }, { g := false }, { g := false }, { g := false }, { d := some (B true) }, { d := some (B true) }, {}, {}, {}, {}, { d := some (B (hasB h x.p)) }, { d := some (B true) }, {}, {}, {}, {}, { d := some (B (paysOK (hasB h) x.ps)) }, { d := some (B true) }, {}, { g := false }, { g := false }, { g := false }, { d := some (B false) }, {}, { g := false }, { g := false }, { g := false }, { d := some (B false) }] [4] [5, 2] (mk 57 [(4, (dt (B false)))] []) ((True ∧ True ∧ True ∧ True ∧ True ∧ True ∧ True ∧ True ∧ (((decide (x.t ≥ 1)) == true) = true) ∧ True ∧ (((decide (x.t ≥ 1)) == true) = true) ∧ True ∧ (((decide (x.t ≥ 1)) == true) = true) ∧ True ∧ True ∧ ((decide (x.t ≥ 1)) = true) ∧ True ∧ True ∧ (((decide (x.t ≤ 4096)) == true) = true) ∧ True ∧ (((decide (x.t ≤ 4096)) == true) = true) ∧ True ∧ (((decide (x.t ≤ 4096)) == true) = true) ∧ True ∧ (((((k : Nat) : Int) == 0) == false) = false) ∧ (((((k : Nat) : Int) == 0) == false) = false) ∧ (((((k : Nat) : Int) == 0) == false) = false) ∧ (((((k : Nat) : Int) == 0) == false) = false) ∧ (((((k : Nat) : Int) == 0) == false) = false) ∧ (((((k : Nat) : Int) == 0) == false) = false) ∧ (((((k : Nat) : Int) == 0) == false) = false) ∧ (((((k : Nat) : Int) == 0) == false) = false) ∧ (((((k : Nat) : Int) == 0) == false) = false) ∧ (((((k : Nat) : Int) == 0) == false) = false) ∧ (((decide (x.t ≤ 4096)) == true) = true) ∧ ((((k : Nat) : Int) == 0) = true) ∧ True ∧ ((decide (x.t ≤ 4096)) = true) ∧ True ∧ True ∧ ((true == true) = true) ∧ True ∧ ((true == true) = true) ∧ True ∧ ((true == true) = true) ∧ True ∧ ((true == true) = true) ∧ (Ret Try.prog 40 [(.agg [(.sl 2 (h.b.map encPay)), (.sl 4 (h.h.map encHold))]), (I x.p)] (B (hasB h x.p))) ∧ True ∧ (true = true) ∧ True ∧ True ∧ (((hasB h x.p) == true) = true) ∧ True ∧ (((hasB h x.p) == true) = true) ∧ True ∧ (((hasB h x.p) == true) = true) ∧ True ∧ (((hasB h x.p) == true) = true) ∧ (Ret Try.prog 45 [(.agg [(.sl 2 (h.b.map encPay)), (.sl 4 (h.h.map encHold))]), (.sl 2 (x.ps.map encPay))] (B (paysOK (hasB h) x.ps))) ∧ True ∧ ((hasB h x.p) = true) ∧ True ∧ True ∧ (((paysOK (hasB h) x.ps) == true) = false) ∧ (((paysOK (hasB h) x.ps) == true) = false) ∧ (((paysOK (hasB h) x.ps) == true) = false) ∧ True ∧ ((paysOK (hasB h) x.ps) = false) ∧ True ∧ True ∧ ((false == true) = false) ∧ ((false == true) = false) ∧ ((false == true) = false) ∧ True ∧ (false = false) ∧ True ∧ True ∧ True) ∧ True) (by kernel_rfl) (by kernel_rfl) (by kernel_rfl) ⟨⟨trivial, trivial, trivial, trivial, trivial, trivial, trivial, trivial, (by rw [show (decide (x.t ≥ 1)) = true from h1]; rfl), trivial, (by rw [show (decide (x.t ≥ 1)) = true from h1]; rfl), trivial, (by rw [show (decide (x.t ≥ 1)) = true from h1]; rfl), trivial, trivial, h1, trivial, trivial, (by rw [show (decide (x.t ≤ 4096)) = true from h3]; rfl), trivial, (by rw [show (decide (x.t ≤ 4096)) = true from h3]; rfl), trivial, (by rw [show (decide (x.t ≤ 4096)) = true from h3]; rfl), trivial, (by rw [show (((k : Nat) : Int) == 0) = true from h5]; rfl), (by rw [show (((k : Nat) : Int) == 0) = true from h5]; rfl), (by rw [show (((k : Nat) : Int) == 0) = true from h5]; rfl), (by rw [show (((k : Nat) : Int) == 0) = true from h5]; rfl), (by rw [show (((k : Nat) : Int) == 0) = true from h5]; rfl), (by rw [show (((k : Nat) : Int) == 0) = true from h5]; rfl), (by rw [show (((k : Nat) : Int) == 0) = true from h5]; rfl), (by rw [show (((k : Nat) : Int) == 0) = true from h5]; rfl), (by rw [show (((k : Nat) : Int) == 0) = true from h5]; rfl), (by rw [show (((k : Nat) : Int) == 0) = true from h5]; rfl), (by rw [show (decide (x.t ≤ 4096)) = true from h3]; rfl), h5, trivial, h3, trivial, trivial, (by rw [show true = true from rfl]; rfl), trivial, (by rw [show true = true from rfl]; rfl), trivial, (by rw [show true = true from rfl]; rfl), trivial, (by rw [show true = true from rfl]; rfl), (ret_hasAccount h hb _), trivial, rfl, trivial, trivial, (by rw [show (hasB h x.p) = true from h7]; rfl), trivial, (by rw [show (hasB h x.p) = true from h7]; rfl), trivial, (by rw [show (hasB h x.p) = true from h7]; rfl), trivial, (by rw [show (hasB h x.p) = true from h7]; rfl), (ret_arePayments h hb _ (by exact hp _ (List.mem_of_getElem? (by assumption)))), trivial, h7, trivial, trivial, (by rw [show (paysOK (hasB h) x.ps) = false from h8]; rfl), (by rw [show (paysOK (hasB h) x.ps) = false from h8]; rfl), (by rw [show (paysOK (hasB h) x.ps) = false from h8]; rfl), trivial, h8, trivial, trivial, (by rw [show false = false from rfl]; rfl), (by rw [show false = false from rfl]; rfl), (by rw [show false = false from rfl]; rfl), trivial, rfl, trivial, trivial, trivial⟩, trivial⟩ ?_
            refine T_ret ?_
            exact ret_here [(dt (B false))] (by kernel_rfl) (.inl (congrArg B (by unfold holdOK prevOf; first | (rw [if_pos (by omega)]; simp_all [notBehind]; done) | (rw [if_neg (by omega)]; simp_all [notBehind]; done) | (simp_all [notBehind]; done) | (simp_all [notBehind]; omega) | (simp_all [notBehind]; intros; omega) : false = (holdOK (hasB h) (prevOf k e.t) x))))
        · skip
          refine T_regD 47 [{}, {}, {}, {}, {}, {}, {}, { d := some (B true) }, {}, {}, {}, {}, { g := false }, { g := false }, { g := false }, { g := false }, { g := false }, { g := false }, { g := false }, { g := false }, { g := false }, { g := false }, { d := some (B true) }, { d := some (B true) }, {}, {}, {}, {}, { d := some (B (hasB h x.p)) }, { d := some (B true) }, {}, { g := false }, { g := false }, { g := false }, { g := false }, { d := some (B false) }, {}, { g := false }, { g := false }, { g := false }, { d := some (B false) }, {}, { g := false }, { g := false }, { g := false }, { d := some (B false) }] [4] [5, 2] (mk 57 [(4, (dt (B false)))] []) ((True ∧ True ∧ True ∧ True ∧ True ∧ True ∧ True ∧ True ∧ (((decide (x.t ≥ 1)) == true) = true) ∧ True ∧ (((decide (x.t ≥ 1)) == true) = true) ∧ True ∧ (((decide (x.t ≥ 1)) == true) = true) ∧ True ∧ True ∧ ((decide (x.t ≥ 1)) = true) ∧ True ∧ True ∧ (((decide (x.t ≤ 4096)) == true) = true) ∧ True ∧ (((decide (x.t ≤ 4096)) == true) = true) ∧ True ∧ (((decide (x.t ≤ 4096)) == true) = true) ∧ True ∧ (((((k : Nat) : Int) == 0) == false) = false) ∧ (((((k : Nat) : Int) == 0) == false) = false) ∧ (((((k : Nat) : Int) == 0) == false) = false) ∧ (((((k : Nat) : Int) == 0) == false) = false) ∧ (((((k : Nat) : Int) == 0) == false) = false) ∧ (((((k : Nat) : Int) == 0) == false) = false) ∧ (((((k : Nat) : Int) == 0) == false) = false) ∧ (((((k : Nat) : Int) == 0) == false) = false) ∧ (((((k : Nat) : Int) == 0) == false) = false) ∧ (((((k : Nat) : Int) == 0) == false) = false) ∧ (((decide (x.t ≤ 4096)) == true) = true) ∧ ((((k : Nat) : Int) == 0) = true) ∧ True ∧ ((decide (x.t ≤ 4096)) = true) ∧ True ∧ True ∧ ((true == true) = true) ∧ True ∧ ((true == true) = true) ∧ True ∧ ((true == true) = true) ∧ True ∧ ((true == true) = true) ∧ (Ret Try.prog 40 [(.agg [(.sl 2 (h.b.map encPay)), (.sl 4 (h.h.map encHold))]), (I x.p)] (B (hasB h x.p))) ∧ True ∧ (true = true) ∧ True ∧ True ∧ (((hasB h x.p) == true) = false) ∧ (((hasB h x.p) == true) = false) ∧ (((hasB h x.p) == true) = false) ∧ (((hasB h x.p) == true) = false) ∧ True ∧ ((hasB h x.p) = false) ∧ True ∧ True ∧ ((false == true) = false) ∧ ((false == true) = false) ∧ ((false == true) = false) ∧ True ∧ (false = false) ∧ True ∧ True ∧ ((false == true) = false) ∧ ((false == true) = false) ∧ ((false == true) = false) ∧ True ∧ (false = false) ∧ True ∧ True ∧ True) ∧ True) (by kernel_rfl) (by kernel_rfl) (by kernel_rfl) ⟨⟨trivial, trivial, trivial, trivial, trivial, trivial, trivial, trivial, (by rw [show (decide (x.t ≥ 1)) = true from h1]; rfl), trivial, (by rw [show (decide (x.t ≥ 1)) = true from h1]; rfl), trivial, (by rw [show (decide (x.t ≥ 1)) = true from h1]; rfl), trivial, trivial, h1, trivial, trivial, (by rw [show (decide (x.t ≤ 4096)) = true from h3]; rfl), trivial, (by rw [show (decide (x.t ≤ 4096)) = true from h3]; rfl), trivial, (by rw [show (decide (x.t ≤ 4096)) = true from h3]; rfl), trivial, (by rw [show (((k : Nat) : Int) == 0) = true from h5]; rfl), (by rw [show (((k : Nat) : Int) == 0) = true from h5]; rfl), (by rw [show (((k : Nat) : Int) == 0) = true from h5]; rfl), (by rw [show (((k : Nat) : Int) == 0) = true from h5]; rfl), (by rw [show (((k : Nat) : Int) == 0) = true from h5]; rfl), (by rw [show (((k : Nat) : Int) == 0) = true from h5]; rfl), (by rw [show (((k : Nat) : Int) == 0) = true from h5]; rfl), (by rw [show (((k : Nat) : Int) == 0) = true from h5]; rfl), (by rw [show (((k : Nat) : Int) == 0) = true from h5]; rfl), (by rw [show (((k : Nat) : Int) == 0) = true from h5]; rfl), (by rw [show (decide (x.t ≤ 4096)) = true from h3]; rfl), h5, trivial, h3, trivial, trivial, (by rw [show true = true from rfl]; rfl), trivial, (by rw [show true = true from rfl]; rfl), trivial, (by rw [show true = true from rfl]; rfl), trivial, (by rw [show true = true from rfl]; rfl), (ret_hasAccount h hb _), trivial, rfl, trivial, trivial, (by rw [show (hasB h x.p) = false from h7]; rfl), (by rw [show (hasB h x.p) = false from h7]; rfl), (by rw [show (hasB h x.p) = false from h7]; rfl), (by rw [show (hasB h x.p) = false from h7]; rfl), trivial, h7, trivial, trivial, (by rw [show false = false from rfl]; rfl), (by rw [show false = false from rfl]; rfl), (by rw [show false = false from rfl]; rfl), trivial, rfl, trivial, trivial, (by rw [show false = false from rfl]; rfl), (by rw [show false = false from rfl]; rfl), (by rw [show false = false from rfl]; rfl), trivial, rfl, trivial, trivial, trivial⟩, trivial⟩ ?_
          refine T_ret ?_
          exact ret_here [(dt (B false))] (by kernel_rfl) (.inl (congrArg B (by unfold holdOK prevOf; first | (rw [if_pos (by omega)]; simp_all [notBehind]; done) | (rw [if_neg (by omega)]; simp_all [notBehind]; done) | (simp_all [notBehind]; done) | (simp_all [notBehind]; omega) | (simp_all [notBehind]; intros; omega) : false = (holdOK (hasB h) (prevOf k e.t) x))))
      · skip
        have g12 : ((k : Nat) : Int) ≠ 0 := ne_of_beq_false (h5)
        rcases Bool.eq_false_or_eq_true (decide (x.t > e.t)) with h13 | h13
        · skip
          have g14 : x.t > e.t := of_decide_eq_true (h13)
          rcases Bool.eq_false_or_eq_true (hasB h x.p) with h15 | h15
          · skip
            rcases Bool.eq_false_or_eq_true (paysOK (hasB h) x.ps) with h16 | h16
            · skip
              rcases Bool.eq_false_or_eq_true (decide (x.s ≥ 1)) with h17 | h17
              · skip
                have g18 : x.s ≥ 1 := of_decide_eq_true (h17)
                refine T_regD 47 [{}, {}, {}, {}, {}, {}, {}, { d := some (B true) }, {}, {}, {}, {}, {}, {}, {}, {}, {}, { d := some (I (((k : Nat) : Int) - 1)) }, { d := some (.agg [(I e.t), (I e.p), (.sl 2 (e.ps.map encPay)), (I e.s)]) }, {}, {}, {}, { d := some (B false) }, { d := some (B true) }, {}, {}, {}, {}, { d := some (B (hasB h x.p)) }, { d := some (B true) }, {}, {}, {}, {}, { d := some (B (paysOK (hasB h) x.ps)) }, { d := some (B true) }, {}, {}, {}, {}, { d := some (B true) }, {}, {}, {}, {}, { d := some (B true) }] [4] [5, 2] (mk 57 [(4, (dt (B (decide (x.s ≤ 3)))))] []) ((True ∧ True ∧ True ∧ True ∧ True ∧ True ∧ True ∧ True ∧ (((decide (x.t ≥ 1)) == true) = true) ∧ True ∧ (((decide (x.t ≥ 1)) == true) = true) ∧ True ∧ (((decide (x.t ≥ 1)) == true) = true) ∧ True ∧ True ∧ ((decide (x.t ≥ 1)) = true) ∧ True ∧ True ∧ (((decide (x.t ≤ 4096)) == true) = true) ∧ True ∧ (((decide (x.t ≤ 4096)) == true) = true) ∧ True ∧ (((decide (x.t ≤ 4096)) == true) = true) ∧ True ∧ (((((k : Nat) : Int) == 0) == false) = true) ∧ True ∧ (((((k : Nat) : Int) == 0) == false) = true) ∧ True ∧ (((((k : Nat) : Int) == 0) == false) = true) ∧ True ∧ (((((k : Nat) : Int) == 0) == false) = true) ∧ True ∧ (((((k : Nat) : Int) == 0) == false) = true) ∧ True ∧ (((((k : Nat) : Int) == 0) == false) = true) ∧ (IntKind.i64.wrap (((k : Nat) : Int) - 1) = (((k : Nat) : Int) - 1)) ∧ (((((k : Nat) : Int) == 0) == false) = true) ∧ (0 ≤ (((k : Nat) : Int) - 1) ∧ (h.h.map encHold)[((((k : Nat) : Int) - 1)).toNat]? = some (.agg [(I e.t), (I e.p), (.sl 2 (e.ps.map encPay)), (I e.s)])) ∧ (((((k : Nat) : Int) == 0) == false) = true) ∧ True ∧ (((((k : Nat) : Int) == 0) == false) = true) ∧ True ∧ (((((k : Nat) : Int) == 0) == false) = true) ∧ True ∧ (((decide (x.t ≤ 4096)) == true) = true) ∧ ((((k : Nat) : Int) == 0) = false) ∧ True ∧ ((decide (x.t ≤ 4096)) = true) ∧ True ∧ True ∧ (((decide (x.t > e.t)) == true) = true) ∧ True ∧ (((decide (x.t > e.t)) == true) = true) ∧ True ∧ (((decide (x.t > e.t)) == true) = true) ∧ True ∧ (((decide (x.t > e.t)) == true) = true) ∧ (Ret Try.prog 40 [(.agg [(.sl 2 (h.b.map encPay)), (.sl 4 (h.h.map encHold))]), (I x.p)] (B (hasB h x.p))) ∧ True ∧ ((decide (x.t > e.t)) = true) ∧ True ∧ True ∧ (((hasB h x.p) == true) = true) ∧ True ∧ (((hasB h x.p) == true) = true) ∧ True ∧ (((hasB h x.p) == true) = true) ∧ True ∧ (((hasB h x.p) == true) = true) ∧ (Ret Try.prog 45 [(.agg [(.sl 2 (h.b.map encPay)), (.sl 4 (h.h.map encHold))]), (.sl 2 (x.ps.map encPay))] (B (paysOK (hasB h) x.ps))) ∧ True ∧ ((hasB h x.p) = true) ∧ True ∧ True ∧ (((paysOK (hasB h) x.ps) == true) = true) ∧ True ∧ (((paysOK (hasB h) x.ps) == true) = true) ∧ True ∧ (((paysOK (hasB h) x.ps) == true) = true) ∧ True ∧ True ∧ ((paysOK (hasB h) x.ps) = true) ∧ True ∧ True ∧ (((decide (x.s ≥ 1)) == true) = true) ∧ True ∧ (((decide (x.s ≥ 1)) == true) = true) ∧ True ∧ (((decide (x.s ≥ 1)) == true) = true) ∧ True ∧ True ∧ ((decide (x.s ≥ 1)) = true) ∧ True ∧ True ∧ True) ∧ True) (by kernel_rfl) (by kernel_rfl) (by kernel_rfl) ⟨⟨trivial, trivial, trivial, trivial, trivial, trivial, trivial, trivial, (by rw [show (decide (x.t ≥ 1)) = true from h1]; rfl), trivial, (by rw [show (decide (x.t ≥ 1)) = true from h1]; rfl), trivial, (by rw [show (decide (x.t ≥ 1)) = true from h1]; rfl), trivial, trivial, h1, trivial, trivial, (by rw [show (decide (x.t ≤ 4096)) = true from h3]; rfl), trivial, (by rw [show (decide (x.t ≤ 4096)) = true from h3]; rfl), trivial, (by rw [show (decide (x.t ≤ 4096)) = true from h3]; rfl), trivial, (by rw [show (((k : Nat) : Int) == 0) = false from h5]; rfl), trivial, (by rw [show (((k : Nat) : Int) == 0) = false from h5]; rfl), trivial, (by rw [show (((k : Nat) : Int) == 0) = false from h5]; rfl), trivial, (by rw [show (((k : Nat) : Int) == 0) = false from h5]; rfl), trivial, (by rw [show (((k : Nat) : Int) == 0) = false from h5]; rfl), trivial, (by rw [show (((k : Nat) : Int) == 0) = false from h5]; rfl), (i64_wrap (by omega) (by omega)), (by rw [show (((k : Nat) : Int) == 0) = false from h5]; rfl), ⟨by omega, by rw [show ((((k : Nat) : Int) - 1)).toNat = k - 1 from by omega]; rw [List.getElem?_map, (he (by omega))]; rfl⟩, (by rw [show (((k : Nat) : Int) == 0) = false from h5]; rfl), trivial, (by rw [show (((k : Nat) : Int) == 0) = false from h5]; rfl), trivial, (by rw [show (((k : Nat) : Int) == 0) = false from h5]; rfl), trivial, (by rw [show (decide (x.t ≤ 4096)) = true from h3]; rfl), h5, trivial, h3, trivial, trivial, (by rw [show (decide (x.t > e.t)) = true from h13]; rfl), trivial, (by rw [show (decide (x.t > e.t)) = true from h13]; rfl), trivial, (by rw [show (decide (x.t > e.t)) = true from h13]; rfl), trivial, (by rw [show (decide (x.t > e.t)) = true from h13]; rfl), (ret_hasAccount h hb _), trivial, h13, trivial, trivial, (by rw [show (hasB h x.p) = true from h15]; rfl), trivial, (by rw [show (hasB h x.p) = true from h15]; rfl), trivial, (by rw [show (hasB h x.p) = true from h15]; rfl), trivial, (by rw [show (hasB h x.p) = true from h15]; rfl), (ret_arePayments h hb _ (by exact hp _ (List.mem_of_getElem? (by assumption)))), trivial, h15, trivial, trivial, (by rw [show (paysOK (hasB h) x.ps) = true from h16]; rfl), trivial, (by rw [show (paysOK (hasB h) x.ps) = true from h16]; rfl), trivial, (by rw [show (paysOK (hasB h) x.ps) = true from h16]; rfl), trivial, trivial, h16, trivial, trivial, (by rw [show (decide (x.s ≥ 1)) = true from h17]; rfl), trivial, (by rw [show (decide (x.s ≥ 1)) = true from h17]; rfl), trivial, (by rw [show (decide (x.s ≥ 1)) = true from h17]; rfl), trivial, trivial, h17, trivial, trivial, trivial⟩, trivial⟩ ?_
                refine T_ret ?_
                exact ret_here [(dt (B (decide (x.s ≤ 3))))] (by kernel_rfl) (.inl (congrArg B (by unfold holdOK prevOf; first | (rw [if_pos (by omega)]; simp_all [notBehind]; done) | (rw [if_neg (by omega)]; simp_all [notBehind]; done) | (simp_all [notBehind]; done) | (simp_all [notBehind]; omega) | (simp_all [notBehind]; intros; omega) : (decide (x.s ≤ 3)) = (holdOK (hasB h) (prevOf k e.t) x))))
              · skip
                have g19 : ¬ (x.s ≥ 1) := of_decide_eq_false (h17)
                refine T_regD 47 [{}, {}, {}, {}, {}, {}, {}, { d := some (B true) }, {}, {}, {}, {}, {}, {}, {}, {}, {}, { d := some (I (((k : Nat) : Int) - 1)) }, { d := some (.agg [(I e.t), (I e.p), (.sl 2 (e.ps.map encPay)), (I e.s)]) }, {}, {}, {}, { d := some (B false) }, { d := some (B true) }, {}, {}, {}, {}, { d := some (B (hasB h x.p)) }, { d := some (B true) }, {}, {}, {}, {}, { d := some (B (paysOK (hasB h) x.ps)) }, { d := some (B true) }, {}, {}, {}, {}, { d := some (B true) }, {}, { g := false }, { g := false }, { g := false }, { d := some (B false) }] [4] [5, 2] (mk 57 [(4, (dt (B false)))] []) ((True ∧ True ∧ True ∧ True ∧ True ∧ True ∧ True ∧ True ∧ (((decide (x.t ≥ 1)) == true) = true) ∧ True ∧ (((decide (x.t ≥ 1)) == true) = true) ∧ True ∧ (((decide (x.t ≥ 1)) == true) = true) ∧ True ∧ True ∧ ((decide (x.t ≥ 1)) = true) ∧ True ∧ True ∧ (((decide (x.t ≤ 4096)) == true) = true) ∧ True ∧ (((decide (x.t ≤ 4096)) == true) = true) ∧ True ∧ (((decide (x.t ≤ 4096)) == true) = true) ∧ True ∧ (((((k : Nat) : Int) == 0) == false) = true) ∧ True ∧ (((((k : Nat) : Int) == 0) == false) = true) ∧ True ∧ (((((k : Nat) : Int) == 0) == false) = true) ∧ True ∧ (((((k : Nat) : Int) == 0) == false) = true) ∧ True ∧ (((((k : Nat) : Int) == 0) == false) = true) ∧ True ∧ (((((k : Nat) : Int) == 0) == false) = true) ∧ (IntKind.i64.wrap (((k : Nat) : Int) - 1) = (((k : Nat) : Int) - 1)) ∧ (((((k : Nat) : Int) == 0) == false) = true) ∧ (0 ≤ (((k : Nat) : Int) - 1) ∧ (h.h.map encHold)[((((k : Nat) : Int) - 1)).toNat]? = some (.agg [(I e.t), (I e.p), (.sl 2 (e.ps.map encPay)), (I e.s)])) ∧ (((((k : Nat) : Int) == 0) == false) = true) ∧ True ∧ (((((k : Nat) : Int) == 0) == false) = true) ∧ True ∧ (((((k : Nat) : Int) == 0) == false) = true) ∧ True ∧ (((decide (x.t ≤ 4096)) == true) = true) ∧ ((((k : Nat) : Int) == 0) = false) ∧ True ∧ ((decide (x.t ≤ 4096)) = true) ∧ True ∧ True ∧ (((decide (x.t > e.t)) == true) = true) ∧ True ∧ (((decide (x.t > e.t)) == true) = true) ∧ True ∧ (((decide (x.t > e.t)) == true) = true) ∧ True ∧ (((decide (x.t > e.t)) == true) = true) ∧ (Ret Try.prog 40 [(.agg [(.sl 2 (h.b.map encPay)), (.sl 4 (h.h.map encHold))]), (I x.p)] (B (hasB h x.p))) ∧ True ∧ ((decide (x.t > e.t)) = true) ∧ True ∧ True ∧ (((hasB h x.p) == true) = true) ∧ True ∧ (((hasB h x.p) == true) = true) ∧ True ∧ (((hasB h x.p) == true) = true) ∧ True ∧ (((hasB h x.p) == true) = true) ∧ (Ret Try.prog 45 [(.agg [(.sl 2 (h.b.map encPay)), (.sl 4 (h.h.map encHold))]), (.sl 2 (x.ps.map encPay))] (B (paysOK (hasB h) x.ps))) ∧ True ∧ ((hasB h x.p) = true) ∧ True ∧ True ∧ (((paysOK (hasB h) x.ps) == true) = true) ∧ True ∧ (((paysOK (hasB h) x.ps) == true) = true) ∧ True ∧ (((paysOK (hasB h) x.ps) == true) = true) ∧ True ∧ True ∧ ((paysOK (hasB h) x.ps) = true) ∧ True ∧ True ∧ (((decide (x.s ≥ 1)) == true) = false) ∧ (((decide (x.s ≥ 1)) == true) = false) ∧ (((decide (x.s ≥ 1)) == true) = false) ∧ True ∧ ((decide (x.s ≥ 1)) = false) ∧ True ∧ True ∧ True) ∧ True) (by kernel_rfl) (by kernel_rfl) (by kernel_rfl) ⟨⟨trivial, trivial, trivial, trivial, trivial, trivial, trivial, trivial, (by rw [show (decide (x.t ≥ 1)) = true from h1]; rfl), trivial, (by rw [show (decide (x.t ≥ 1)) = true from h1]; rfl), trivial, (by rw [show (decide (x.t ≥ 1)) = true from h1]; rfl), trivial, trivial, h1, trivial, trivial, (by rw [show (decide (x.t ≤ 4096)) = true from h3]; rfl), trivial, (by rw [show (decide (x.t ≤ 4096)) = true from h3]; rfl), trivial, (by rw [show (decide (x.t ≤ 4096)) = true from h3]; rfl), trivial, (by rw [show (((k : Nat) : Int) == 0) = false from h5]; rfl), trivial, (by rw [show (((k : Nat) : Int) == 0) = false from h5]; rfl), trivial, (by rw [show (((k : Nat) : Int) == 0) = false from h5]; rfl), trivial, (by rw [show (((k : Nat) : Int) == 0) = false from h5]; rfl), trivial, (by rw [show (((k : Nat) : Int) == 0) = false from h5]; rfl), trivial, (by rw [show (((k : Nat) : Int) == 0) = false from h5]; rfl), (i64_wrap (by omega) (by omega)), (by rw [show (((k : Nat) : Int) == 0) = false from h5]; rfl), ⟨by omega, by rw [show ((((k : Nat) : Int) - 1)).toNat = k - 1 from by omega]; rw [List.getElem?_map, (he (by omega))]; rfl⟩, (by rw [show (((k : Nat) : Int) == 0) = false from h5]; rfl), trivial, (by rw [show (((k : Nat) : Int) == 0) = false from h5]; rfl), trivial, (by rw [show (((k : Nat) : Int) == 0) = false from h5]; rfl), trivial, (by rw [show (decide (x.t ≤ 4096)) = true from h3]; rfl), h5, trivial, h3, trivial, trivial, (by rw [show (decide (x.t > e.t)) = true from h13]; rfl), trivial, (by rw [show (decide (x.t > e.t)) = true from h13]; rfl), trivial, (by rw [show (decide (x.t > e.t)) = true from h13]; rfl), trivial, (by rw [show (decide (x.t > e.t)) = true from h13]; rfl), (ret_hasAccount h hb _), trivial, h13, trivial, trivial, (by rw [show (hasB h x.p) = true from h15]; rfl), trivial, (by rw [show (hasB h x.p) = true from h15]; rfl), trivial, (by rw [show (hasB h x.p) = true from h15]; rfl), trivial, (by rw [show (hasB h x.p) = true from h15]; rfl), (ret_arePayments h hb _ (by exact hp _ (List.mem_of_getElem? (by assumption)))), trivial, h15, trivial, trivial, (by rw [show (paysOK (hasB h) x.ps) = true from h16]; rfl), trivial, (by rw [show (paysOK (hasB h) x.ps) = true from h16]; rfl), trivial, (by rw [show (paysOK (hasB h) x.ps) = true from h16]; rfl), trivial, trivial, h16, trivial, trivial, (by rw [show (decide (x.s ≥ 1)) = false from h17]; rfl), (by rw [show (decide (x.s ≥ 1)) = false from h17]; rfl), (by rw [show (decide (x.s ≥ 1)) = false from h17]; rfl), trivial, h17, trivial, trivial, trivial⟩, trivial⟩ ?_
                refine T_ret ?_
                exact ret_here [(dt (B false))] (by kernel_rfl) (.inl (congrArg B (by unfold holdOK prevOf; first | (rw [if_pos (by omega)]; simp_all [notBehind]; done) | (rw [if_neg (by omega)]; simp_all [notBehind]; done) | (simp_all [notBehind]; done) | (simp_all [notBehind]; omega) | (simp_all [notBehind]; intros; omega) : false = (holdOK (hasB h) (prevOf k e.t) x))))
            · skip
              refine T_regD 47 [{}, {}, {}, {}, {}, {}, {}, { d := some (B true) }, {}, {}, {}, {}, {}, {}, {}, {}, {}, { d := some (I (((k : Nat) : Int) - 1)) }, { d := some (.agg [(I e.t), (I e.p), (.sl 2 (e.ps.map encPay)), (I e.s)]) }, {}, {}, {}, { d := some (B false) }, { d := some (B true) }, {}, {}, {}, {}, { d := some (B (hasB h x.p)) }, { d := some (B true) }, {}, {}, {}, {}, { d := some (B (paysOK (hasB h) x.ps)) }, { d := some (B true) }, {}, { g := false }, { g := false }, { g := false }, { d := some (B false) }, {}, { g := false }, { g := false }, { g := false }, { d := some (B false) }] [4] [5, 2] (mk 57 [(4, (dt (B false)))] []) ((True ∧ True ∧ True ∧ True ∧ True ∧ True ∧ True ∧ True ∧ (((decide (x.t ≥ 1)) == true) = true) ∧ True ∧ (((decide (x.t ≥ 1)) == true) = true) ∧ True ∧ (((decide (x.t ≥ 1)) == true) = true) ∧ True ∧ True ∧ ((decide (x.t ≥ 1)) = true) ∧ True ∧ True ∧ (((decide (x.t ≤ 4096)) == true) = true) ∧ True ∧ (((decide (x.t ≤ 4096)) == true) = true) ∧ True ∧ (((decide (x.t ≤ 4096)) == true) = true) ∧ True ∧ (((((k : Nat) : Int) == 0) == false) = true) ∧ True ∧ (((((k : Nat) : Int) == 0) == false) = true) ∧ True ∧ (((((k : Nat) : Int) == 0) == false) = true) ∧ True ∧ (((((k : Nat) : Int) == 0) == false) = true) ∧ True ∧ (((((k : Nat) : Int) == 0) == false) = true) ∧ True ∧ (((((k : Nat) : Int) == 0) == false) = true) ∧ (IntKind.i64.wrap (((k : Nat) : Int) - 1) = (((k : Nat) : Int) - 1)) ∧ (((((k : Nat) : Int) == 0) == false) = true) ∧ (0 ≤ (((k : Nat) : Int) - 1) ∧ (h.h.map encHold)[((((k : Nat) : Int) - 1)).toNat]? = some (.agg [(I e.t), (I e.p), (.sl 2 (e.ps.map encPay)), (I e.s)])) ∧ (((((k : Nat) : Int) == 0) == false) = true) ∧ True ∧ (((((k : Nat) : Int) == 0) == false) = true) ∧ True ∧ (((((k : Nat) : Int) == 0) == false) = true) ∧ True ∧ (((decide (x.t ≤ 4096)) == true) = true) ∧ ((((k : Nat) : Int) == 0) = false) ∧ True ∧ ((decide (x.t ≤ 4096)) = true) ∧ True ∧ True ∧ (((decide (x.t > e.t)) == true) = true) ∧ True ∧ (((decide (x.t > e.t)) == true) = true) ∧ True ∧ (((decide (x.t > e.t)) == true) = true) ∧ True ∧ (((decide (x.t > e.t)) == true) = true) ∧ (Ret Try.prog 40 [(.agg [(.sl 2 (h.b.map encPay)), (.sl 4 (h.h.map encHold))]), (I x.p)] (B (hasB h x.p))) ∧ True ∧ ((decide (x.t > e.t)) = true) ∧ True ∧ True ∧ (((hasB h x.p) == true) = true) ∧ True ∧ (((hasB h x.p) == true) = true) ∧ True ∧ (((hasB h x.p) == true) = true) ∧ True ∧ (((hasB h x.p) == true) = true) ∧ (Ret Try.prog 45 [(.agg [(.sl 2 (h.b.map encPay)), (.sl 4 (h.h.map encHold))]), (.sl 2 (x.ps.map encPay))] (B (paysOK (hasB h) x.ps))) ∧ True ∧ ((hasB h x.p) = true) ∧ True ∧ True ∧ (((paysOK (hasB h) x.ps) == true) = false) ∧ (((paysOK (hasB h) x.ps) == true) = false) ∧ (((paysOK (hasB h) x.ps) == true) = false) ∧ True ∧ ((paysOK (hasB h) x.ps) = false) ∧ True ∧ True ∧ ((false == true) = false) ∧ ((false == true) = false) ∧ ((false == true) = false) ∧ True ∧ (false = false) ∧ True ∧ True ∧ True) ∧ True) (by kernel_rfl) (by kernel_rfl) (by kernel_rfl) ⟨⟨trivial, trivial, trivial, trivial, trivial, trivial, trivial, trivial, (by rw [show (decide (x.t ≥ 1)) = true from h1]; rfl), trivial, (by rw [show (decide (x.t ≥ 1)) = true from h1]; rfl), trivial, (by rw [show (decide (x.t ≥ 1)) = true from h1]; rfl), trivial, trivial, h1, trivial, trivial, (by rw [show (decide (x.t ≤ 4096)) = true from h3]; rfl), trivial, (by rw [show (decide (x.t ≤ 4096)) = true from h3]; rfl), trivial, (by rw [show (decide (x.t ≤ 4096)) = true from h3]; rfl), trivial, (by rw [show (((k : Nat) : Int) == 0) = false from h5]; rfl), trivial, (by rw [show (((k : Nat) : Int) == 0) = false from h5]; rfl), trivial, (by rw [show (((k : Nat) : Int) == 0) = false from h5]; rfl), trivial, (by rw [show (((k : Nat) : Int) == 0) = false from h5]; rfl), trivial, (by rw [show (((k : Nat) : Int) == 0) = false from h5]; rfl), trivial, (by rw [show (((k : Nat) : Int) == 0) = false from h5]; rfl), (i64_wrap (by omega) (by omega)), (by rw [show (((k : Nat) : Int) == 0) = false from h5]; rfl), ⟨by omega, by rw [show ((((k : Nat) : Int) - 1)).toNat = k - 1 from by omega]; rw [List.getElem?_map, (he (by omega))]; rfl⟩, (by rw [show (((k : Nat) : Int) == 0) = false from h5]; rfl), trivial, (by rw [show (((k : Nat) : Int) == 0) = false from h5]; rfl), trivial, (by rw [show (((k : Nat) : Int) == 0) = false from h5]; rfl), trivial, (by rw [show (decide (x.t ≤ 4096)) = true from h3]; rfl), h5, trivial, h3, trivial, trivial, (by rw [show (decide (x.t > e.t)) = true from h13]; rfl), trivial, (by rw [show (decide (x.t > e.t)) = true from h13]; rfl), trivial, (by rw [show (decide (x.t > e.t)) = true from h13]; rfl), trivial, (by rw [show (decide (x.t > e.t)) = true from h13]; rfl), (ret_hasAccount h hb _), trivial, h13, trivial, trivial, (by rw [show (hasB h x.p) = true from h15]; rfl), trivial, (by rw [show (hasB h x.p) = true from h15]; rfl), trivial, (by rw [show (hasB h x.p) = true from h15]; rfl), trivial, (by rw [show (hasB h x.p) = true from h15]; rfl), (ret_arePayments h hb _ (by exact hp _ (List.mem_of_getElem? (by assumption)))), trivial, h15, trivial, trivial, (by rw [show (paysOK (hasB h) x.ps) = false from h16]; rfl), (by rw [show (paysOK (hasB h) x.ps) = false from h16]; rfl), (by rw [show (paysOK (hasB h) x.ps) = false from h16]; rfl), trivial, h16, trivial, trivial, (by rw [show false = false from rfl]; rfl), (by rw [show false = false from rfl]; rfl), (by rw [show false = false from rfl]; rfl), trivial, rfl, trivial, trivial, trivial⟩, trivial⟩ ?_
              refine T_ret ?_
              exact ret_here [(dt (B false))] (by kernel_rfl) (.inl (congrArg B (by unfold holdOK prevOf; first | (rw [if_pos (by omega)]; simp_all [notBehind]; done) | (rw [if_neg (by omega)]; simp_all [notBehind]; done) | (simp_all [notBehind]; done) | (simp_all [notBehind]; omega) | (simp_all [notBehind]; intros; omega) : false = (holdOK (hasB h) (prevOf k e.t) x))))
          · skip
            refine T_regD 47 [{}, {}, {}, {}, {}, {}, {}, { d := some (B true) }, {}, {}, {}, {}, {}, {}, {}, {}, {}, { d := some (I (((k : Nat) : Int) - 1)) }, { d := some (.agg [(I e.t), (I e.p), (.sl 2 (e.ps.map encPay)), (I e.s)]) }, {}, {}, {}, { d := some (B false) }, { d := some (B true) }, {}, {}, {}, {}, { d := some (B (hasB h x.p)) }, { d := some (B true) }, {}, { g := false }, { g := false }, { g := false }, { g := false }, { d := some (B false) }, {}, { g := false }, { g := false }, { g := false }, { d := some (B false) }, {}, { g := false }, { g := false }, { g := false }, { d := some (B false) }] [4] [5, 2] (mk 57 [(4, (dt (B false)))] []) ((True ∧ True ∧ True ∧ True ∧ True ∧ True ∧ True ∧ True ∧ (((decide (x.t ≥ 1)) == true) = true) ∧ True ∧ (((decide (x.t ≥ 1)) == true) = true) ∧ True ∧ (((decide (x.t ≥ 1)) == true) = true) ∧ True ∧ True ∧ ((decide (x.t ≥ 1)) = true) ∧ True ∧ True ∧ (((decide (x.t ≤ 4096)) == true) = true) ∧ True ∧ (((decide (x.t ≤ 4096)) == true) = true) ∧ True ∧ (((decide (x.t ≤ 4096)) == true) = true) ∧ True ∧ (((((k : Nat) : Int) == 0) == false) = true) ∧ True ∧ (((((k : Nat) : Int) == 0) == false) = true) ∧ True ∧ (((((k : Nat) : Int) == 0) == false) = true) ∧ True ∧ (((((k : Nat) : Int) == 0) == false) = true) ∧ True ∧ (((((k : Nat) : Int) == 0) == false) = true) ∧ True ∧ (((((k : Nat) : Int) == 0) == false) = true) ∧ (IntKind.i64.wrap (((k : Nat) : Int) - 1) = (((k : Nat) : Int) - 1)) ∧ (((((k : Nat) : Int) == 0) == false) = true) ∧ (0 ≤ (((k : Nat) : Int) - 1) ∧ (h.h.map encHold)[((((k : Nat) : Int) - 1)).toNat]? = some (.agg [(I e.t), (I e.p), (.sl 2 (e.ps.map encPay)), (I e.s)])) ∧ (((((k : Nat) : Int) == 0) == false) = true) ∧ True ∧ (((((k : Nat) : Int) == 0) == false) = true) ∧ True ∧ (((((k : Nat) : Int) == 0) == false) = true) ∧ True ∧ (((decide (x.t ≤ 4096)) == true) = true) ∧ ((((k : Nat) : Int) == 0) = false) ∧ True ∧ ((decide (x.t ≤ 4096)) = true) ∧ True ∧ True ∧ (((decide (x.t > e.t)) == true) = true) ∧ True ∧ (((decide (x.t > e.t)) == true) = true) ∧ True ∧ (((decide (x.t > e.t)) == true) = true) ∧ True ∧ (((decide (x.t > e.t)) == true) = true) ∧ (Ret Try.prog 40 [(.agg [(.sl 2 (h.b.map encPay)), (.sl 4 (h.h.map encHold))]), (I x.p)] (B (hasB h x.p))) ∧ True ∧ ((decide (x.t > e.t)) = true) ∧ True ∧ True ∧ (((hasB h x.p) == true) = false) ∧ (((hasB h x.p) == true) = false) ∧ (((hasB h x.p) == true) = false) ∧ (((hasB h x.p) == true) = false) ∧ True ∧ ((hasB h x.p) = false) ∧ True ∧ True ∧ ((false == true) = false) ∧ ((false == true) = false) ∧ ((false == true) = false) ∧ True ∧ (false = false) ∧ True ∧ True ∧ ((false == true) = false) ∧ ((false == true) = false) ∧ ((false == true) = false) ∧ True ∧ (false = false) ∧ True ∧ True ∧ True) ∧ True) (by kernel_rfl) (by kernel_rfl) (by kernel_rfl) ⟨⟨trivial, trivial, trivial, trivial, trivial, trivial, trivial, trivial, (by rw [show (decide (x.t ≥ 1)) = true from h1]; rfl), trivial, (by rw [show (decide (x.t ≥ 1)) = true from h1]; rfl), trivial, (by rw [show (decide (x.t ≥ 1)) = true from h1]; rfl), trivial, trivial, h1, trivial, trivial, (by rw [show (decide (x.t ≤ 4096)) = true from h3]; rfl), trivial, (by rw [show (decide (x.t ≤ 4096)) = true from h3]; rfl), trivial, (by rw [show (decide (x.t ≤ 4096)) = true from h3]; rfl), trivial, (by rw [show (((k : Nat) : Int) == 0) = false from h5]; rfl), trivial, (by rw [show (((k : Nat) : Int) == 0) = false from h5]; rfl), trivial, (by rw [show (((k : Nat) : Int) == 0) = false from h5]; rfl), trivial, (by rw [show (((k : Nat) : Int) == 0) = false from h5]; rfl), trivial, (by rw [show (((k : Nat) : Int) == 0) = false from h5]; rfl), trivial, (by rw [show (((k : Nat) : Int) == 0) = false from h5]; rfl), (i64_wrap (by omega) (by omega)), (by rw [show (((k : Nat) : Int) == 0) = false from h5]; rfl), ⟨by omega, by rw [show ((((k : Nat) : Int) - 1)).toNat = k - 1 from by omega]; rw [List.getElem?_map, (he (by omega))]; rfl⟩, (by rw [show (((k : Nat) : Int) == 0) = false from h5]; rfl), trivial, (by rw [show (((k : Nat) : Int) == 0) = false from h5]; rfl), trivial, (by rw [show (((k : Nat) : Int) == 0) = false from h5]; rfl), trivial, (by rw [show (decide (x.t ≤ 4096)) = true from h3]; rfl), h5, trivial, h3, trivial, trivial, (by rw [show (decide (x.t > e.t)) = true from h13]; rfl), trivial, (by rw [show (decide (x.t > e.t)) = true from h13]; rfl), trivial, (by rw [show (decide (x.t > e.t)) = true from h13]; rfl), trivial, (by rw [show (decide (x.t > e.t)) = true from h13]; rfl), (ret_hasAccount h hb _), trivial, h13, trivial, trivial, (by rw [show (hasB h x.p) = false from h15]; rfl), (by rw [show (hasB h x.p) = false from h15]; rfl), (by rw [show (hasB h x.p) = false from h15]; rfl), (by rw [show (hasB h x.p) = false from h15]; rfl), trivial, h15, trivial, trivial, (by rw [show false = false from rfl]; rfl), (by rw [show false = false from rfl]; rfl), (by rw [show false = false from rfl]; rfl), trivial, rfl, trivial, trivial, (by rw [show false = false from rfl]; rfl), (by rw [show false = false from rfl]; rfl), (by rw [show false = false from rfl]; rfl), trivial, rfl, trivial, trivial, trivial⟩, trivial⟩ ?_
            refine T_ret ?_
            exact ret_here [(dt (B false))] (by kernel_rfl) (.inl (congrArg B (by unfold holdOK prevOf; first | (rw [if_pos (by omega)]; simp_all [notBehind]; done) | (rw [if_neg (by omega)]; simp_all [notBehind]; done) | (simp_all [notBehind]; done) | (simp_all [notBehind]; omega) | (simp_all [notBehind]; intros; omega) : false = (holdOK (hasB h) (prevOf k e.t) x))))
        · skip
          have g20 : ¬ (x.t > e.t) := of_decide_eq_false (h13)
          refine T_regD 47 [{}, {}, {}, {}, {}, {}, {}, { d := some (B true) }, {}, {}, {}, {}, {}, {}, {}, {}, {}, { d := some (I (((k : Nat) : Int) - 1)) }, { d := some (.agg [(I e.t), (I e.p), (.sl 2 (e.ps.map encPay)), (I e.s)]) }, {}, {}, {}, { d := some (B false) }, { d := some (B true) }, {}, { g := false }, { g := false }, { g := false }, { g := false }, { d := some (B false) }, {}, { g := false }, { g := false }, { g := false }, { g := false }, { d := some (B false) }, {}, { g := false }, { g := false }, { g := false }, { d := some (B false) }, {}, { g := false }, { g := false }, { g := false }, { d := some (B false) }] [4] [5, 2] (mk 57 [(4, (dt (B false)))] []) ((True ∧ True ∧ True ∧ True ∧ True ∧ True ∧ True ∧ True ∧ (((decide (x.t ≥ 1)) == true) = true) ∧ True ∧ (((decide (x.t ≥ 1)) == true) = true) ∧ True ∧ (((decide (x.t ≥ 1)) == true) = true) ∧ True ∧ True ∧ ((decide (x.t ≥ 1)) = true) ∧ True ∧ True ∧ (((decide (x.t ≤ 4096)) == true) = true) ∧ True ∧ (((decide (x.t ≤ 4096)) == true) = true) ∧ True ∧ (((decide (x.t ≤ 4096)) == true) = true) ∧ True ∧ (((((k : Nat) : Int) == 0) == false) = true) ∧ True ∧ (((((k : Nat) : Int) == 0) == false) = true) ∧ True ∧ (((((k : Nat) : Int) == 0) == false) = true) ∧ True ∧ (((((k : Nat) : Int) == 0) == false) = true) ∧ True ∧ (((((k : Nat) : Int) == 0) == false) = true) ∧ True ∧ (((((k : Nat) : Int) == 0) == false) = true) ∧ (IntKind.i64.wrap (((k : Nat) : Int) - 1) = (((k : Nat) : Int) - 1)) ∧ (((((k : Nat) : Int) == 0) == false) = true) ∧ (0 ≤ (((k : Nat) : Int) - 1) ∧ (h.h.map encHold)[((((k : Nat) : Int) - 1)).toNat]? = some (.agg [(I e.t), (I e.p), (.sl 2 (e.ps.map encPay)), (I e.s)])) ∧ (((((k : Nat) : Int) == 0) == false) = true) ∧ True ∧ (((((k : Nat) : Int) == 0) == false) = true) ∧ True ∧ (((((k : Nat) : Int) == 0) == false) = true) ∧ True ∧ (((decide (x.t ≤ 4096)) == true) = true) ∧ ((((k : Nat) : Int) == 0) = false) ∧ True ∧ ((decide (x.t ≤ 4096)) = true) ∧ True ∧ True ∧ (((decide (x.t > e.t)) == true) = false) ∧ (((decide (x.t > e.t)) == true) = false) ∧ (((decide (x.t > e.t)) == true) = false) ∧ (((decide (x.t > e.t)) == true) = false) ∧ True ∧ ((decide (x.t > e.t)) = false) ∧ True ∧ True ∧ ((false == true) = false) ∧ ((false == true) = false) ∧ ((false == true) = false) ∧ ((false == true) = false) ∧ True ∧ (false = false) ∧ True ∧ True ∧ ((false == true) = false) ∧ ((false == true) = false) ∧ ((false == true) = false) ∧ True ∧ (false = false) ∧ True ∧ True ∧ ((false == true) = false) ∧ ((false == true) = false) ∧ ((false == true) = false) ∧ True ∧ (false = false) ∧ True ∧ True ∧ True) ∧ True) (by kernel_rfl) (by kernel_rfl) (by kernel_rfl) ⟨⟨trivial, trivial, trivial, trivial, trivial, trivial, trivial, trivial, (by rw [show (decide (x.t ≥ 1)) = true from h1]; rfl), trivial, (by rw [show (decide (x.t ≥ 1)) = true from h1]; rfl), trivial, (by rw [show (decide (x.t ≥ 1)) = true from h1]; rfl), trivial, trivial, h1, trivial, trivial, (by rw [show (decide (x.t ≤ 4096)) = true from h3]; rfl), trivial, (by rw [show (decide (x.t ≤ 4096)) = true from h3]; rfl), trivial, (by rw [show (decide (x.t ≤ 4096)) = true from h3]; rfl), trivial, (by rw [show (((k : Nat) : Int) == 0) = false from h5]; rfl), trivial, (by rw [show (((k : Nat) : Int) == 0) = false from h5]; rfl), trivial, (by rw [show (((k : Nat) : Int) == 0) = false from h5]; rfl), trivial, (by rw [show (((k : Nat) : Int) == 0) = false from h5]; rfl), trivial, (by rw [show (((k : Nat) : Int) == 0) = false from h5]; rfl), trivial, (by rw [show (((k : Nat) : Int) == 0) = false from h5]; rfl), (i64_wrap (by omega) (by omega)), (by rw [show (((k : Nat) : Int) == 0) = false from h5]; rfl), ⟨by omega, by rw [show ((((k : Nat) : Int) - 1)).toNat = k - 1 from by omega]; rw [List.getElem?_map, (he (by omega))]; rfl⟩, (by rw [show (((k : Nat) : Int) == 0) = false from h5]; rfl), trivial, (by rw [show (((k : Nat) : Int) == 0) = false from h5]; rfl), trivial, (by rw [show (((k : Nat) : Int) == 0) = false from h5]; rfl), trivial, (by rw [show (decide (x.t ≤ 4096)) = true from h3]; rfl), h5, trivial, h3, trivial, trivial, (by rw [show (decide (x.t > e.t)) = false from h13]; rfl), (by rw [show (decide (x.t > e.t)) = false from h13]; rfl), (by rw [show (decide (x.t > e.t)) = false from h13]; rfl), (by rw [show (decide (x.t > e.t)) = false from h13]; rfl), trivial, h13, trivial, trivial, (by rw [show false = false from rfl]; rfl), (by rw [show false = false from rfl]; rfl), (by rw [show false = false from rfl]; rfl), (by rw [show false = false from rfl]; rfl), trivial, rfl, trivial, trivial, (by rw [show false = false from rfl]; rfl), (by rw [show false = false from rfl]; rfl), (by rw [show false = false from rfl]; rfl), trivial, rfl, trivial, trivial, (by rw [show false = false from rfl]; rfl), (by rw [show false = false from rfl]; rfl), (by rw [show false = false from rfl]; rfl), trivial, rfl, trivial, trivial, trivial⟩, trivial⟩ ?_
          refine T_ret ?_
          exact ret_here [(dt (B false))] (by kernel_rfl) (.inl (congrArg B (by unfold holdOK prevOf; first | (rw [if_pos (by omega)]; simp_all [notBehind]; done) | (rw [if_neg (by omega)]; simp_all [notBehind]; done) | (simp_all [notBehind]; done) | (simp_all [notBehind]; omega) | (simp_all [notBehind]; intros; omega) : false = (holdOK (hasB h) (prevOf k e.t) x))))
    · skip
      have g21 : ¬ (x.t ≤ 4096) := of_decide_eq_false (h3)
      refine T_regD 47 [{}, {}, {}, {}, {}, {}, {}, { d := some (B true) }, {}, { g := false }, { g := false }, { g := false }, {}, {}, {}, {}, {}, {}, {}, {}, {}, {}, { g := false }, { d := some (B false) }, {}, { g := false }, { g := false }, { g := false }, { g := false }, { d := some (B false) }, {}, { g := false }, { g := false }, { g := false }, { g := false }, { d := some (B false) }, {}, { g := false }, { g := false }, { g := false }, { d := some (B false) }, {}, { g := false }, { g := false }, { g := false }, { d := some (B false) }] [4] [5, 2] (mk 57 [(4, (dt (B false)))] []) ((True ∧ True ∧ True ∧ True ∧ True ∧ True ∧ True ∧ True ∧ (((decide (x.t ≥ 1)) == true) = true) ∧ True ∧ (((decide (x.t ≥ 1)) == true) = true) ∧ True ∧ (((decide (x.t ≥ 1)) == true) = true) ∧ True ∧ True ∧ ((decide (x.t ≥ 1)) = true) ∧ True ∧ True ∧ (((decide (x.t ≤ 4096)) == true) = false) ∧ (((decide (x.t ≤ 4096)) == true) = false) ∧ (((decide (x.t ≤ 4096)) == true) = false) ∧ True ∧ True ∧ True ∧ True ∧ True ∧ True ∧ True ∧ True ∧ True ∧ True ∧ (((decide (x.t ≤ 4096)) == true) = false) ∧ True ∧ ((decide (x.t ≤ 4096)) = false) ∧ True ∧ True ∧ ((false == true) = false) ∧ ((false == true) = false) ∧ ((false == true) = false) ∧ ((false == true) = false) ∧ True ∧ (false = false) ∧ True ∧ True ∧ ((false == true) = false) ∧ ((false == true) = false) ∧ ((false == true) = false) ∧ ((false == true) = false) ∧ True ∧ (false = false) ∧ True ∧ True ∧ ((false == true) = false) ∧ ((false == true) = false) ∧ ((false == true) = false) ∧ True ∧ (false = false) ∧ True ∧ True ∧ ((false == true) = false) ∧ ((false == true) = false) ∧ ((false == true) = false) ∧ True ∧ (false = false) ∧ True ∧ True ∧ True) ∧ True) (by kernel_rfl) (by kernel_rfl) (by kernel_rfl) ⟨⟨trivial, trivial, trivial, trivial, trivial, trivial, trivial, trivial, (by rw [show (decide (x.t ≥ 1)) = true from h1]; rfl), trivial, (by rw [show (decide (x.t ≥ 1)) = true from h1]; rfl), trivial, (by rw [show (decide (x.t ≥ 1)) = true from h1]; rfl), trivial, trivial, h1, trivial, trivial, (by rw [show (decide (x.t ≤ 4096)) = false from h3]; rfl), (by rw [show (decide (x.t ≤ 4096)) = false from h3]; rfl), (by rw [show (decide (x.t ≤ 4096)) = false from h3]; rfl), trivial, trivial, trivial, trivial, trivial, trivial, trivial, trivial, trivial, trivial, (by rw [show (decide (x.t ≤ 4096)) = false from h3]; rfl), trivial, h3, trivial, trivial, (by rw [show false = false from rfl]; rfl), (by rw [show false = false from rfl]; rfl), (by rw [show false = false from rfl]; rfl), (by rw [show false = false from rfl]; rfl), trivial, rfl, trivial, trivial, (by rw [show false = false from rfl]; rfl), (by rw [show false = false from rfl]; rfl), (by rw [show false = false from rfl]; rfl), (by rw [show false = false from rfl]; rfl), trivial, rfl, trivial, trivial, (by rw [show false = false from rfl]; rfl), (by rw [show false = false from rfl]; rfl), (by rw [show false = false from rfl]; rfl), trivial, rfl, trivial, trivial, (by rw [show false = false from rfl]; rfl), (by rw [show false = false from rfl]; rfl), (by rw [show false = false from rfl]; rfl), trivial, rfl, trivial, trivial, trivial⟩, trivial⟩ ?_
      refine T_ret ?_
      exact ret_here [(dt (B false))] (by kernel_rfl) (.inl (congrArg B (by unfold holdOK prevOf; first | (rw [if_pos (by omega)]; simp_all [notBehind]; done) | (rw [if_neg (by omega)]; simp_all [notBehind]; done) | (simp_all [notBehind]; done) | (simp_all [notBehind]; omega) | (simp_all [notBehind]; intros; omega) : false = (holdOK (hasB h) (prevOf k e.t) x))))
  · skip
    have g22 : ¬ (x.t ≥ 1) := of_decide_eq_false (h1)
    refine T_regD 47 [{}, {}, {}, {}, { g := false }, { g := false }, { g := false }, { d := some (B false) }, {}, { g := false }, { g := false }, { g := false }, {}, {}, {}, {}, {}, {}, {}, {}, {}, {}, { g := false }, { d := some (B false) }, {}, { g := false }, { g := false }, { g := false }, { g := false }, { d := some (B false) }, {}, { g := false }, { g := false }, { g := false }, { g := false }, { d := some (B false) }, {}, { g := false }, { g := false }, { g := false }, { d := some (B false) }, {}, { g := false }, { g := false }, { g := false }, { d := some (B false) }] [4] [5, 2] (mk 57 [(4, (dt (B false)))] []) ((True ∧ True ∧ True ∧ True ∧ True ∧ True ∧ True ∧ True ∧ (((decide (x.t ≥ 1)) == true) = false) ∧ (((decide (x.t ≥ 1)) == true) = false) ∧ (((decide (x.t ≥ 1)) == true) = false) ∧ True ∧ ((decide (x.t ≥ 1)) = false) ∧ True ∧ True ∧ ((false == true) = false) ∧ ((false == true) = false) ∧ ((false == true) = false) ∧ True ∧ True ∧ True ∧ True ∧ True ∧ True ∧ True ∧ True ∧ True ∧ True ∧ ((false == true) = false) ∧ True ∧ (false = false) ∧ True ∧ True ∧ ((false == true) = false) ∧ ((false == true) = false) ∧ ((false == true) = false) ∧ ((false == true) = false) ∧ True ∧ (false = false) ∧ True ∧ True ∧ ((false == true) = false) ∧ ((false == true) = false) ∧ ((false == true) = false) ∧ ((false == true) = false) ∧ True ∧ (false = false) ∧ True ∧ True ∧ ((false == true) = false) ∧ ((false == true) = false) ∧ ((false == true) = false) ∧ True ∧ (false = false) ∧ True ∧ True ∧ ((false == true) = false) ∧ ((false == true) = false) ∧ ((false == true) = false) ∧ True ∧ (false = false) ∧ True ∧ True ∧ True) ∧ True) (by kernel_rfl) (by kernel_rfl) (by kernel_rfl) ⟨⟨trivial, trivial, trivial, trivial, trivial, trivial, trivial, trivial, (by rw [show (decide (x.t ≥ 1)) = false from h1]; rfl), (by rw [show (decide (x.t ≥ 1)) = false from h1]; rfl), (by rw [show (decide (x.t ≥ 1)) = false from h1]; rfl), trivial, h1, trivial, trivial, (by rw [show false = false from rfl]; rfl), (by rw [show false = false from rfl]; rfl), (by rw [show false = false from rfl]; rfl), trivial, trivial, trivial, trivial, trivial, trivial, trivial, trivial, trivial, trivial, (by rw [show false = false from rfl]; rfl), trivial, rfl, trivial, trivial, (by rw [show false = false from rfl]; rfl), (by rw [show false = false from rfl]; rfl), (by rw [show false = false from rfl]; rfl), (by rw [show false = false from rfl]; rfl), trivial, rfl, trivial, trivial, (by rw [show false = false from rfl]; rfl), (by rw [show false = false from rfl]; rfl), (by rw [show false = false from rfl]; rfl), (by rw [show false = false from rfl]; rfl), trivial, rfl, trivial, trivial, (by rw [show false = false from rfl]; rfl), (by rw [show false = false from rfl]; rfl), (by rw [show false = false from rfl]; rfl), trivial, rfl, trivial, trivial, (by rw [show false = false from rfl]; rfl), (by rw [show false = false from rfl]; rfl), (by rw [show false = false from rfl]; rfl), trivial, rfl, trivial, trivial, trivial⟩, trivial⟩ ?_
    refine T_ret ?_
    exact ret_here [(dt (B false))] (by kernel_rfl) (.inl (congrArg B (by unfold holdOK prevOf; first | (rw [if_pos (by omega)]; simp_all [notBehind]; done) | (rw [if_neg (by omega)]; simp_all [notBehind]; done) | (simp_all [notBehind]; done) | (simp_all [notBehind]; omega) | (simp_all [notBehind]; intros; omega) : false = (holdOK (hasB h) (prevOf k e.t) x))))

theorem ret_check (h : House) (hb : h.b.length ≤ 140737488355328) (hh : h.h.length ≤ 140737488355328) (hp : ∀ x ∈ h.h, x.ps.length ≤ 140737488355328) : Ret Try.prog 17 [(.agg [(.sl 2 (h.b.map encPay)), (.sl 4 (h.h.map encHold))])] (I (check h)) := by
  refine Ret.of_T Try.func17 (by kernel_rfl) rfl ?_
  refine T_turn [] [0] [] (mk 55 [(0, (.agg [(.dat (.sl 2 (h.b.map encPay))), (.dat (.sl 4 (h.h.map encHold)))]))] []) (by kernel_rfl) ?_
  refine T_reg [] [1] [] (mk 55 [(1, (.one (.ref 1 0)))] [(1, (.var [(.dat (.sl 2 (h.b.map encPay))), (.dat (.sl 4 (h.h.map encHold)))]))]) (True ∧ True ∧ True ∧ True ∧ True) (by kernel_rfl) ⟨trivial, trivial, trivial, trivial, trivial⟩ ?_
  refine T_seq ?_
  rcases Bool.eq_false_or_eq_true (decide (((h.b.length : Nat) : Int) > 192)) with h1 | h1
  · skip
    have g2 : ((h.b.length : Nat) : Int) > 192 := of_decide_eq_true (h1)
    refine T_reg [{}, {}, { d := some (I ((h.b.length : Nat) : Int)) }, {}, {}, { g := false }, { g := false }, { g := false }, { g := false }, { d := some (B true) }] [1, 16] [] (mk 55 [(1, (.one (.ref 1 0))), (16, (dt (B true)))] [(1, (.var [(.dat (.sl 2 (h.b.map encPay))), (.dat (.sl 4 (h.h.map encHold)))]))]) (True ∧ True ∧ True ∧ True ∧ True ∧ (True ∧ D.int .i64 ((h.b.map encPay).length : Int) = (I ((h.b.length : Nat) : Int))) ∧ True ∧ True ∧ True ∧ True ∧ (((decide (((h.b.length : Nat) : Int) > 192)) == false) = false) ∧ (((decide (((h.b.length : Nat) : Int) > 192)) == false) = false) ∧ (((decide (((h.b.length : Nat) : Int) > 192)) == false) = false) ∧ (((decide (((h.b.length : Nat) : Int) > 192)) == false) = false) ∧ True ∧ ((decide (((h.b.length : Nat) : Int) > 192)) = true) ∧ True) (by kernel_rfl) ⟨trivial, trivial, trivial, trivial, trivial, ⟨trivial, by rw [List.length_map]⟩, trivial, trivial, trivial, trivial, (by rw [show (decide (((h.b.length : Nat) : Int) > 192)) = true from h1]; rfl), (by rw [show (decide (((h.b.length : Nat) : Int) > 192)) = true from h1]; rfl), (by rw [show (decide (((h.b.length : Nat) : Int) > 192)) = true from h1]; rfl), (by rw [show (decide (((h.b.length : Nat) : Int) > 192)) = true from h1]; rfl), trivial, h1, trivial⟩ ?_
    refine T_cond true (by kernel_rfl) (fun _ => ?_) (fun h => absurd (h.symm.trans rfl) (by decide))
    refine T_reg [] [2] [1] (mk 55 [(2, (dt (I 1)))] []) (True ∧ True ∧ True) (by kernel_rfl) ⟨trivial, trivial, trivial⟩ ?_
    refine T_ret ?_
    exact ret_here [(dt (I 1))] (by kernel_rfl) (.inl (congrArg I (by first | exact chk_yes (cw_ok (by omega) (by omega) (by rw [← iv, List.drop_eq_nil_of_le (by omega)]; rfl) (by rw [← all_taken ic (by omega)]; assumption) (by rw [← jv, List.drop_eq_nil_of_le (by omega)]; rfl) (by omega)) | exact chk_no (cw_len (by omega)) | exact chk_no (cw_total (by omega)) | exact chk_no (cw_clubs (by rw [← all_taken ic (by omega)]; assumption)) | exact chk_no (cw_holds (by rw [← jv]; exact holdsFrom_stop (by assumption) (by first | assumption | (unfold holdOK prevOf; first | (rw [if_pos (by omega)]; simp_all [notBehind]; done) | (rw [if_neg (by omega)]; simp_all [notBehind]; done) | (simp_all [notBehind]; done) | (simp_all [notBehind]; omega) | (simp_all [notBehind]; intros; omega))))) | exact chk_no (cw_amount (by rw [← iv, drop_cons (by assumption), amountsOK, if_pos (by omega)])) : 1 = (check h))))
  · skip
    have g3 : ¬ (((h.b.length : Nat) : Int) > 192) := of_decide_eq_false (h1)
    refine T_reg [{}, {}, { d := some (I ((h.b.length : Nat) : Int)) }, {}, {}, {}, {}, { d := some (I ((h.h.length : Nat) : Int)) }, {}, { d := some (B false) }] [1, 16] [] (mk 55 [(1, (.one (.ref 1 0))), (16, (dt (B (decide (((h.h.length : Nat) : Int) > 4096)))))] [(1, (.var [(.dat (.sl 2 (h.b.map encPay))), (.dat (.sl 4 (h.h.map encHold)))]))]) (True ∧ True ∧ True ∧ True ∧ True ∧ (True ∧ D.int .i64 ((h.b.map encPay).length : Int) = (I ((h.b.length : Nat) : Int))) ∧ True ∧ True ∧ True ∧ True ∧ (((decide (((h.b.length : Nat) : Int) > 192)) == false) = true) ∧ True ∧ (((decide (((h.b.length : Nat) : Int) > 192)) == false) = true) ∧ True ∧ (((decide (((h.b.length : Nat) : Int) > 192)) == false) = true) ∧ (True ∧ D.int .i64 ((h.h.map encHold).length : Int) = (I ((h.h.length : Nat) : Int))) ∧ (((decide (((h.b.length : Nat) : Int) > 192)) == false) = true) ∧ True ∧ True ∧ ((decide (((h.b.length : Nat) : Int) > 192)) = false) ∧ True) (by kernel_rfl) ⟨trivial, trivial, trivial, trivial, trivial, ⟨trivial, by rw [List.length_map]⟩, trivial, trivial, trivial, trivial, (by rw [show (decide (((h.b.length : Nat) : Int) > 192)) = false from h1]; rfl), trivial, (by rw [show (decide (((h.b.length : Nat) : Int) > 192)) = false from h1]; rfl), trivial, (by rw [show (decide (((h.b.length : Nat) : Int) > 192)) = false from h1]; rfl), ⟨trivial, by rw [List.length_map]⟩, (by rw [show (decide (((h.b.length : Nat) : Int) > 192)) = false from h1]; rfl), trivial, trivial, h1, trivial⟩ ?_
    refine T_cond (decide (((h.h.length : Nat) : Int) > 4096)) (by kernel_rfl) (fun h4 => ?_) (fun h4 => ?_)
    · skip
      have g5 : ((h.h.length : Nat) : Int) > 4096 := of_decide_eq_true (h4)
      refine T_reg [] [2] [1] (mk 55 [(2, (dt (I 1)))] []) (True ∧ True ∧ True) (by kernel_rfl) ⟨trivial, trivial, trivial⟩ ?_
      refine T_ret ?_
      exact ret_here [(dt (I 1))] (by kernel_rfl) (.inl (congrArg I (by first | exact chk_yes (cw_ok (by omega) (by omega) (by rw [← iv, List.drop_eq_nil_of_le (by omega)]; rfl) (by rw [← all_taken ic (by omega)]; assumption) (by rw [← jv, List.drop_eq_nil_of_le (by omega)]; rfl) (by omega)) | exact chk_no (cw_len (by omega)) | exact chk_no (cw_total (by omega)) | exact chk_no (cw_clubs (by rw [← all_taken ic (by omega)]; assumption)) | exact chk_no (cw_holds (by rw [← jv]; exact holdsFrom_stop (by assumption) (by first | assumption | (unfold holdOK prevOf; first | (rw [if_pos (by omega)]; simp_all [notBehind]; done) | (rw [if_neg (by omega)]; simp_all [notBehind]; done) | (simp_all [notBehind]; done) | (simp_all [notBehind]; omega) | (simp_all [notBehind]; intros; omega))))) | exact chk_no (cw_amount (by rw [← iv, drop_cons (by assumption), amountsOK, if_pos (by omega)])) : 1 = (check h))))
    · skip
      have g6 : ¬ (((h.h.length : Nat) : Int) > 4096) := of_decide_eq_false (h4)
      refine T_skip ?_
      refine T_reg [] [1, 3] [] (mk 55 [(1, (.one (.ref 1 0))), (3, (dt nilS))] [(1, (.var [(.dat (.sl 2 (h.b.map encPay))), (.dat (.sl 4 (h.h.map encHold)))]))]) (True ∧ True ∧ True) (by kernel_rfl) ⟨trivial, trivial, trivial⟩ ?_
      refine T_seq ?_
      refine T_reg [{}, {}, { d := some (I ((h.b.length : Nat) : Int)) }] [1, 3, 18, 19, 20] [] (mk 55 [(1, (.one (.ref 1 0))), (3, (dt nilS)), (18, (dt (.sl 2 (h.b.map encPay)))), (19, (dt (I ((h.b.length : Nat) : Int)))), (20, (dt (I 0)))] [(1, (.var [(.dat (.sl 2 (h.b.map encPay))), (.dat (.sl 4 (h.h.map encHold)))]))]) (True ∧ True ∧ True ∧ True ∧ True ∧ (True ∧ D.int .i64 ((h.b.map encPay).length : Int) = (I ((h.b.length : Nat) : Int))) ∧ True ∧ True ∧ True) (by kernel_rfl) ⟨trivial, trivial, trivial, trivial, trivial, ⟨trivial, by rw [List.length_map]⟩, trivial, trivial, trivial⟩ ?_
      refine T_block ?_
      refine T_ownSlot 3 36 3 1 (mk 55 [(1, (.one (.ref 1 0))), (3, (.one (.own 36))), (18, (dt (.sl 2 (h.b.map encPay)))), (19, (dt (I ((h.b.length : Nat) : Int)))), (20, (dt (I 0)))] [(36, (.row 3 1 (([] : List Int).map encI))), (1, (.var [(.dat (.sl 2 (h.b.map encPay))), (.dat (.sl 4 (h.h.map encHold)))]))]) (by kernel_rfl) (by decide) ?_
      refine T_turn [] [1, 3, 18, 19, 20] [] ((fun ((k, cl) : Nat × List Int) => (mk 55 [(1, (.one (.ref 1 0))), (3, (.one (.own 36))), (18, (dt (.sl 2 (h.b.map encPay)))), (19, (dt (I ((h.b.length : Nat) : Int)))), (20, (dt (I ((k : Nat) : Int))))] [(36, (.row 3 1 (cl.map encI))), (1, (.var [(.dat (.sl 2 (h.b.map encPay))), (.dat (.sl 4 (h.h.map encHold)))]))])) (0, ([] : List Int))) (by kernel_rfl) (T_loop (α := Nat × List Int) (fun ((k, cl) : Nat × List Int) => (mk 55 [(1, (.one (.ref 1 0))), (3, (.one (.own 36))), (18, (dt (.sl 2 (h.b.map encPay)))), (19, (dt (I ((h.b.length : Nat) : Int)))), (20, (dt (I ((k : Nat) : Int))))] [(36, (.row 3 1 (cl.map encI))), (1, (.var [(.dat (.sl 2 (h.b.map encPay))), (.dat (.sl 4 (h.h.map encHold)))]))])) (fun ((k, cl) : Nat × List Int) => (k ≤ (h.b).length) ∧ (amountsOK (h.b.drop k) = amountsOK h.b) ∧ (cl = (h.b.take k).map (·.c)) ∧ True) (fun ((k, cl) : Nat × List Int) => (h.b).length - k) (0, ([] : List Int)) ⟨Nat.zero_le _, rfl, rfl, trivial⟩ ?_)
      rintro ⟨k, cl⟩ ⟨ik, iv, ic, _⟩
      refine T_reg [] [1, 3, 18, 19, 20, 21] [] (mk 55 [(1, (.one (.ref 1 0))), (3, (.one (.own 36))), (18, (dt (.sl 2 (h.b.map encPay)))), (19, (dt (I ((h.b.length : Nat) : Int)))), (20, (dt (I ((k : Nat) : Int)))), (21, (dt (B (decide (((k : Nat) : Int) < ((h.b.length : Nat) : Int))))))] [(36, (.row 3 1 (cl.map encI))), (1, (.var [(.dat (.sl 2 (h.b.map encPay))), (.dat (.sl 4 (h.h.map encHold)))]))]) (True ∧ True ∧ True) (by kernel_rfl) ⟨trivial, trivial, trivial⟩ ?_
      refine T_seq ?_
      refine T_cond (decide (((k : Nat) : Int) < ((h.b.length : Nat) : Int))) (by kernel_rfl) (fun h7 => ?_) (fun h7 => ?_)
      · skip
        have g8 : ((k : Nat) : Int) < ((h.b.length : Nat) : Int) := of_decide_eq_true (h7)
        refine T_skip ?_
        refine T_seq ?_
        refine T_block ?_
        have lt9 : k < (h.b).length := by first | omega | (simp only [List.length_set, List.length_map, List.length_append, List.length_cons, List.length_nil] at *; omega)
        obtain ⟨x10, hx11⟩ : ∃ x, (h.b)[k]? = some x := ⟨_, List.getElem?_eq_getElem lt9⟩
        refine T_reg [{ d := some (.agg [(I x10.c), (I x10.a)]) }] [1, 3, 5, 18, 19, 20] [] (mk 55 [(1, (.one (.ref 1 0))), (3, (.one (.own 36))), (5, (.one (.ref 5 0))), (18, (dt (.sl 2 (h.b.map encPay)))), (19, (dt (I ((h.b.length : Nat) : Int)))), (20, (dt (I ((k : Nat) : Int))))] [(5, (.var [(.dat (I x10.c)), (.dat (I x10.a))])), (36, (.row 3 1 (cl.map encI))), (1, (.var [(.dat (.sl 2 (h.b.map encPay))), (.dat (.sl 4 (h.h.map encHold)))]))]) (True ∧ (0 ≤ ((k : Nat) : Int) ∧ (h.b.map encPay)[k]? = some (.agg [(I x10.c), (I x10.a)])) ∧ True ∧ True ∧ True ∧ True ∧ True ∧ True ∧ True) (by kernel_rfl) ⟨trivial, ⟨by omega, by rw [List.getElem?_map, hx11]; rfl⟩, trivial, trivial, trivial, trivial, trivial, trivial, trivial⟩ ?_
        refine T_seq ?_
        rcases Bool.eq_false_or_eq_true (decide (x10.a < 0)) with h12 | h12
        · skip
          have g13 : x10.a < 0 := of_decide_eq_true (h12)
          refine T_reg [{}, {}, {}, {}, { g := false }, { g := false }, { g := false }, { d := some (B true) }] [1, 3, 5, 18, 19, 20, 31] [] (mk 55 [(1, (.one (.ref 1 0))), (3, (.one (.own 36))), (5, (.one (.ref 5 0))), (18, (dt (.sl 2 (h.b.map encPay)))), (19, (dt (I ((h.b.length : Nat) : Int)))), (20, (dt (I ((k : Nat) : Int)))), (31, (dt (B true)))] [(5, (.var [(.dat (I x10.c)), (.dat (I x10.a))])), (36, (.row 3 1 (cl.map encI))), (1, (.var [(.dat (.sl 2 (h.b.map encPay))), (.dat (.sl 4 (h.h.map encHold)))]))]) (True ∧ True ∧ True ∧ True ∧ True ∧ True ∧ True ∧ True ∧ (((decide (x10.a < 0)) == false) = false) ∧ (((decide (x10.a < 0)) == false) = false) ∧ (((decide (x10.a < 0)) == false) = false) ∧ True ∧ ((decide (x10.a < 0)) = true) ∧ True) (by kernel_rfl) ⟨trivial, trivial, trivial, trivial, trivial, trivial, trivial, trivial, (by rw [show (decide (x10.a < 0)) = true from h12]; rfl), (by rw [show (decide (x10.a < 0)) = true from h12]; rfl), (by rw [show (decide (x10.a < 0)) = true from h12]; rfl), trivial, h12, trivial⟩ ?_
          refine T_cond true (by kernel_rfl) (fun _ => ?_) (fun h => absurd (h.symm.trans rfl) (by decide))
          refine T_reg [] [2] [5, 36, 1] (mk 55 [(2, (dt (I 1)))] []) (True ∧ True ∧ True) (by kernel_rfl) ⟨trivial, trivial, trivial⟩ ?_
          refine T_ret ?_
          exact ret_here [(dt (I 1))] (by kernel_rfl) (.inl (congrArg I (by first | exact chk_yes (cw_ok (by omega) (by omega) (by rw [← iv, List.drop_eq_nil_of_le (by omega)]; rfl) (by rw [← all_taken ic (by omega)]; assumption) (by rw [← jv, List.drop_eq_nil_of_le (by omega)]; rfl) (by omega)) | exact chk_no (cw_len (by omega)) | exact chk_no (cw_total (by omega)) | exact chk_no (cw_clubs (by rw [← all_taken ic (by omega)]; assumption)) | exact chk_no (cw_holds (by rw [← jv]; exact holdsFrom_stop (by assumption) (by first | assumption | (unfold holdOK prevOf; first | (rw [if_pos (by omega)]; simp_all [notBehind]; done) | (rw [if_neg (by omega)]; simp_all [notBehind]; done) | (simp_all [notBehind]; done) | (simp_all [notBehind]; omega) | (simp_all [notBehind]; intros; omega))))) | exact chk_no (cw_amount (by rw [← iv, drop_cons (by assumption), amountsOK, if_pos (by omega)])) : 1 = (check h))))
        · skip
          have g14 : ¬ (x10.a < 0) := of_decide_eq_false (h12)
          refine T_reg [{}, {}, {}, {}, {}, {}, {}, { d := some (B false) }] [1, 3, 5, 18, 19, 20, 31] [] (mk 55 [(1, (.one (.ref 1 0))), (3, (.one (.own 36))), (5, (.one (.ref 5 0))), (18, (dt (.sl 2 (h.b.map encPay)))), (19, (dt (I ((h.b.length : Nat) : Int)))), (20, (dt (I ((k : Nat) : Int)))), (31, (dt (B (decide (x10.a > 1125899906842624)))))] [(5, (.var [(.dat (I x10.c)), (.dat (I x10.a))])), (36, (.row 3 1 (cl.map encI))), (1, (.var [(.dat (.sl 2 (h.b.map encPay))), (.dat (.sl 4 (h.h.map encHold)))]))]) (True ∧ True ∧ True ∧ True ∧ True ∧ True ∧ True ∧ True ∧ (((decide (x10.a < 0)) == false) = true) ∧ True ∧ (((decide (x10.a < 0)) == false) = true) ∧ True ∧ (((decide (x10.a < 0)) == false) = true) ∧ True ∧ True ∧ ((decide (x10.a < 0)) = false) ∧ True) (by kernel_rfl) ⟨trivial, trivial, trivial, trivial, trivial, trivial, trivial, trivial, (by rw [show (decide (x10.a < 0)) = false from h12]; rfl), trivial, (by rw [show (decide (x10.a < 0)) = false from h12]; rfl), trivial, (by rw [show (decide (x10.a < 0)) = false from h12]; rfl), trivial, trivial, h12, trivial⟩ ?_
          refine T_cond (decide (x10.a > 1125899906842624)) (by kernel_rfl) (fun h15 => ?_) (fun h15 => ?_)
          · skip
            have g16 : x10.a > 1125899906842624 := of_decide_eq_true (h15)
            refine T_reg [] [2] [5, 36, 1] (mk 55 [(2, (dt (I 1)))] []) (True ∧ True ∧ True) (by kernel_rfl) ⟨trivial, trivial, trivial⟩ ?_
            refine T_ret ?_
            exact ret_here [(dt (I 1))] (by kernel_rfl) (.inl (congrArg I (by first | exact chk_yes (cw_ok (by omega) (by omega) (by rw [← iv, List.drop_eq_nil_of_le (by omega)]; rfl) (by rw [← all_taken ic (by omega)]; assumption) (by rw [← jv, List.drop_eq_nil_of_le (by omega)]; rfl) (by omega)) | exact chk_no (cw_len (by omega)) | exact chk_no (cw_total (by omega)) | exact chk_no (cw_clubs (by rw [← all_taken ic (by omega)]; assumption)) | exact chk_no (cw_holds (by rw [← jv]; exact holdsFrom_stop (by assumption) (by first | assumption | (unfold holdOK prevOf; first | (rw [if_pos (by omega)]; simp_all [notBehind]; done) | (rw [if_neg (by omega)]; simp_all [notBehind]; done) | (simp_all [notBehind]; done) | (simp_all [notBehind]; omega) | (simp_all [notBehind]; intros; omega))))) | exact chk_no (cw_amount (by rw [← iv, drop_cons (by assumption), amountsOK, if_pos (by omega)])) : 1 = (check h))))
          · skip
            have g17 : ¬ (x10.a > 1125899906842624) := of_decide_eq_false (h15)
            refine T_skip ?_
            refine T_regE [{}, {}, {}, {}, { d := some (.sl 1 ((cl ++ [x10.c]).map encI)) }] (mk 55 [(1, (.one (.ref 1 0))), (3, (.one (.own 36))), (5, (.one (.ref 5 0))), (18, (dt (.sl 2 (h.b.map encPay)))), (19, (dt (I ((h.b.length : Nat) : Int)))), (20, (dt (I ((k : Nat) : Int)))), (31, (dt (B (decide (x10.a > 1125899906842624))))), (33, (.one (.ref 5 0))), (34, (dt (I x10.c))), (35, (.one (.own 35))), (36, (.one (.own 36)))] [(36, (.row 3 1 ((cl ++ [x10.c]).map encI))), (35, (.row 3 1 ([x10.c].map encI))), (5, (.var [(.dat (I x10.c)), (.dat (I x10.a))])), (1, (.var [(.dat (.sl 2 (h.b.map encPay))), (.dat (.sl 4 (h.h.map encHold)))]))]) (True ∧ True ∧ True ∧ True ∧ True ∧ True ∧ True ∧ (dfill (fun i => some (i * 1, 1)) (List.replicate (1 * 1) .junk) [(0, [(.dat (I x10.c))])] = some ((flat ([x10.c].map encI)).map .dat)) ∧ True ∧ (((cl.map encI).length + ([x10.c].map encI).length) * 8 ≤ 140737488355328 ∧ cellsOne ([x10.c].map encI) ∧ (cl.map encI) ++ [x10.c].map encI = (cl ++ [x10.c]).map encI) ∧ True ∧ True ∧ True) (by kernel_rfl) ⟨trivial, trivial, trivial, trivial, trivial, trivial, trivial, rfl, trivial, ⟨by simp only [List.length_map, List.length_nil, List.length_cons]; (have := congrArg List.length ic; simp only [List.length_map, List.length_take] at this; omega), encI_one _, by simp⟩, trivial, trivial, trivial⟩ ?_
            refine T_regE [{ d := some (I ((k + 1 : Nat) : Int)) }] (mk 55 [(1, (.one (.ref 1 0))), (3, (.one (.own 36))), (5, (.one (.ref 5 0))), (18, (dt (.sl 2 (h.b.map encPay)))), (19, (dt (I ((h.b.length : Nat) : Int)))), (20, (dt (I ((k + 1 : Nat) : Int)))), (31, (dt (B (decide (x10.a > 1125899906842624))))), (33, (.one (.ref 5 0))), (34, (dt (I x10.c))), (35, (.one (.own 35))), (36, (.one (.own 36))), (37, (dt (I ((k + 1 : Nat) : Int))))] [(36, (.row 3 1 ((cl ++ [x10.c]).map encI))), (35, (.row 3 1 ([x10.c].map encI))), (5, (.var [(.dat (I x10.c)), (.dat (I x10.a))])), (1, (.var [(.dat (.sl 2 (h.b.map encPay))), (.dat (.sl 4 (h.h.map encHold)))]))]) (True ∧ (IntKind.i64.wrap (((k : Nat) : Int) + 1) = ((k + 1 : Nat) : Int)) ∧ True ∧ True ∧ True) (by kernel_rfl) ⟨trivial, (by rw [i64_wrap (by omega) (by omega)]; omega), trivial, trivial, trivial⟩ ?_
            refine Exists.intro (k + 1, (cl ++ [x10.c])) ⟨⟨by omega, by rw [← iv, drop_cons hx11, amountsOK, if_neg (by omega)], taken_step ic hx11, trivial⟩, by first | omega | (dsimp only; omega), le_turn [] [1, 3, 18, 19, 20] [35, 5] (by kernel_rfl)⟩
      · skip
        have g18 : ¬ (((k : Nat) : Int) < ((h.b.length : Nat) : Int)) := of_decide_eq_false (h7)
        refine T_exit ?_
        refine T_seq ?_
        refine T_reg [{}, { d := some (B (areClubs cl)) }] [1, 40] [36] (mk 55 [(1, (.one (.ref 1 0))), (40, (dt (B (!(areClubs cl)))))] [(1, (.var [(.dat (.sl 2 (h.b.map encPay))), (.dat (.sl 4 (h.h.map encHold)))]))]) (True ∧ True ∧ True ∧ (Ret Try.prog 33 [(.sl 1 (cl.map encI))] (B (areClubs cl))) ∧ True ∧ True ∧ True) (by kernel_rfl) ⟨trivial, trivial, trivial, (ret_areClubs _ (by have := congrArg List.length ic; simp only [List.length_map, List.length_take] at this; omega)), trivial, trivial, trivial⟩ ?_
        refine T_cond (!(areClubs cl)) (by kernel_rfl) (fun h19 => ?_) (fun h19 => ?_)
        · skip
          have n20 : (areClubs cl) = false := not_t h19
          refine T_reg [] [2] [1] (mk 55 [(2, (dt (I 1)))] []) (True ∧ True ∧ True) (by kernel_rfl) ⟨trivial, trivial, trivial⟩ ?_
          refine T_ret ?_
          exact ret_here [(dt (I 1))] (by kernel_rfl) (.inl (congrArg I (by first | exact chk_yes (cw_ok (by omega) (by omega) (by rw [← iv, List.drop_eq_nil_of_le (by omega)]; rfl) (by rw [← all_taken ic (by omega)]; assumption) (by rw [← jv, List.drop_eq_nil_of_le (by omega)]; rfl) (by omega)) | exact chk_no (cw_len (by omega)) | exact chk_no (cw_total (by omega)) | exact chk_no (cw_clubs (by rw [← all_taken ic (by omega)]; assumption)) | exact chk_no (cw_holds (by rw [← jv]; exact holdsFrom_stop (by assumption) (by first | assumption | (unfold holdOK prevOf; first | (rw [if_pos (by omega)]; simp_all [notBehind]; done) | (rw [if_neg (by omega)]; simp_all [notBehind]; done) | (simp_all [notBehind]; done) | (simp_all [notBehind]; omega) | (simp_all [notBehind]; intros; omega))))) | exact chk_no (cw_amount (by rw [← iv, drop_cons (by assumption), amountsOK, if_pos (by omega)])) : 1 = (check h))))
        · skip
          have n21 : (areClubs cl) = true := not_f h19
          refine T_skip ?_
          refine T_seq ?_
          refine T_reg [{}, {}, { d := some (I ((h.h.length : Nat) : Int)) }] [1, 43, 44] [] (mk 55 [(1, (.one (.ref 1 0))), (43, (dt (I ((h.h.length : Nat) : Int)))), (44, (dt (I 0)))] [(1, (.var [(.dat (.sl 2 (h.b.map encPay))), (.dat (.sl 4 (h.h.map encHold)))]))]) (True ∧ True ∧ True ∧ True ∧ True ∧ (True ∧ D.int .i64 ((h.h.map encHold).length : Int) = (I ((h.h.length : Nat) : Int))) ∧ True ∧ True ∧ True) (by kernel_rfl) ⟨trivial, trivial, trivial, trivial, trivial, ⟨trivial, by rw [List.length_map]⟩, trivial, trivial, trivial⟩ ?_
          refine T_block ?_
          refine T_turn [] [1, 43, 44] [] ((fun ((j, e) : Nat × Hold) => (mk 55 [(1, (.one (.ref 1 0))), (43, (dt (I ((h.h.length : Nat) : Int)))), (44, (dt (I ((j : Nat) : Int))))] [(1, (.var [(.dat (.sl 2 (h.b.map encPay))), (.dat (.sl 4 (h.h.map encHold)))]))])) (0, ⟨0, 0, [], 0⟩)) (by kernel_rfl) (T_loop (α := Nat × Hold) (fun ((j, e) : Nat × Hold) => (mk 55 [(1, (.one (.ref 1 0))), (43, (dt (I ((h.h.length : Nat) : Int)))), (44, (dt (I ((j : Nat) : Int))))] [(1, (.var [(.dat (.sl 2 (h.b.map encPay))), (.dat (.sl 4 (h.h.map encHold)))]))])) (fun ((j, e) : Nat × Hold) => (j ≤ (h.h).length) ∧ (holdsFrom (hasB h) (prevOf j e.t) (h.h.drop j) = holdsFrom (hasB h) none h.h) ∧ (0 < j → h.h[j - 1]? = some e) ∧ True) (fun ((j, e) : Nat × Hold) => (h.h).length - j) (0, ⟨0, 0, [], 0⟩) ⟨Nat.zero_le _, rfl, fun h => absurd h (Nat.lt_irrefl _), trivial⟩ ?_)
          rintro ⟨j, e⟩ ⟨ij, jv, jp2, _⟩
          refine T_reg [] [1, 43, 44, 45] [] (mk 55 [(1, (.one (.ref 1 0))), (43, (dt (I ((h.h.length : Nat) : Int)))), (44, (dt (I ((j : Nat) : Int)))), (45, (dt (B (decide (((j : Nat) : Int) < ((h.h.length : Nat) : Int))))))] [(1, (.var [(.dat (.sl 2 (h.b.map encPay))), (.dat (.sl 4 (h.h.map encHold)))]))]) (True ∧ True ∧ True) (by kernel_rfl) ⟨trivial, trivial, trivial⟩ ?_
          refine T_seq ?_
          refine T_cond (decide (((j : Nat) : Int) < ((h.h.length : Nat) : Int))) (by kernel_rfl) (fun h22 => ?_) (fun h22 => ?_)
          · skip
            have g23 : ((j : Nat) : Int) < ((h.h.length : Nat) : Int) := of_decide_eq_true (h22)
            refine T_skip ?_
            refine T_seq ?_
            refine T_block ?_
            refine T_reg [] [1, 6, 43, 44] [] (mk 55 [(1, (.one (.ref 1 0))), (6, (dt (I ((j : Nat) : Int)))), (43, (dt (I ((h.h.length : Nat) : Int)))), (44, (dt (I ((j : Nat) : Int))))] [(1, (.var [(.dat (.sl 2 (h.b.map encPay))), (.dat (.sl 4 (h.h.map encHold)))]))]) (True ∧ True ∧ True ∧ True ∧ True) (by kernel_rfl) ⟨trivial, trivial, trivial, trivial, trivial⟩ ?_
            have lt24 : j < (h.h).length := by first | omega | (simp only [List.length_set, List.length_map, List.length_append, List.length_cons, List.length_nil] at *; omega)
            obtain ⟨x25, hx26⟩ : ∃ x, (h.h)[j]? = some x := ⟨_, List.getElem?_eq_getElem lt24⟩
            refine T_reg [{}, {}, { d := some (B (holdOK (hasB h) (prevOf j e.t) x25)) }] [1, 43, 44, 50] [] (mk 55 [(1, (.one (.ref 1 0))), (43, (dt (I ((h.h.length : Nat) : Int)))), (44, (dt (I ((j : Nat) : Int)))), (50, (dt (B (!(holdOK (hasB h) (prevOf j e.t) x25)))))] [(1, (.var [(.dat (.sl 2 (h.b.map encPay))), (.dat (.sl 4 (h.h.map encHold)))]))]) (True ∧ True ∧ True ∧ True ∧ True ∧ (Ret Try.prog 36 [(.agg [(.sl 2 (h.b.map encPay)), (.sl 4 (h.h.map encHold))]), (I ((j : Nat) : Int))] (B (holdOK (hasB h) (prevOf j e.t) x25))) ∧ True ∧ True ∧ True) (by kernel_rfl) ⟨trivial, trivial, trivial, trivial, trivial, (ret_isHold h hb hh hp j x25 e hx26 jp2), trivial, trivial, trivial⟩ ?_
            refine T_cond (!(holdOK (hasB h) (prevOf j e.t) x25)) (by kernel_rfl) (fun h27 => ?_) (fun h27 => ?_)
            · skip
              have n28 : (holdOK (hasB h) (prevOf j e.t) x25) = false := not_t h27
              refine T_reg [] [2] [1] (mk 55 [(2, (dt (I 1)))] []) (True ∧ True ∧ True) (by kernel_rfl) ⟨trivial, trivial, trivial⟩ ?_
              refine T_ret ?_
              exact ret_here [(dt (I 1))] (by kernel_rfl) (.inl (congrArg I (by first | exact chk_yes (cw_ok (by omega) (by omega) (by rw [← iv, List.drop_eq_nil_of_le (by omega)]; rfl) (by rw [← all_taken ic (by omega)]; assumption) (by rw [← jv, List.drop_eq_nil_of_le (by omega)]; rfl) (by omega)) | exact chk_no (cw_len (by omega)) | exact chk_no (cw_total (by omega)) | exact chk_no (cw_clubs (by rw [← all_taken ic (by omega)]; assumption)) | exact chk_no (cw_holds (by rw [← jv]; exact holdsFrom_stop (by assumption) (by first | assumption | (unfold holdOK prevOf; first | (rw [if_pos (by omega)]; simp_all [notBehind]; done) | (rw [if_neg (by omega)]; simp_all [notBehind]; done) | (simp_all [notBehind]; done) | (simp_all [notBehind]; omega) | (simp_all [notBehind]; intros; omega))))) | exact chk_no (cw_amount (by rw [← iv, drop_cons (by assumption), amountsOK, if_pos (by omega)])) : 1 = (check h))))
            · skip
              have n29 : (holdOK (hasB h) (prevOf j e.t) x25) = true := not_f h27
              refine T_skip ?_
              refine T_regE [{ d := some (I ((j + 1 : Nat) : Int)) }] (mk 55 [(1, (.one (.ref 1 0))), (43, (dt (I ((h.h.length : Nat) : Int)))), (44, (dt (I ((j + 1 : Nat) : Int)))), (50, (dt (B (!(holdOK (hasB h) (prevOf j e.t) x25))))), (51, (dt (I ((j + 1 : Nat) : Int))))] [(1, (.var [(.dat (.sl 2 (h.b.map encPay))), (.dat (.sl 4 (h.h.map encHold)))]))]) (True ∧ (IntKind.i64.wrap (((j : Nat) : Int) + 1) = ((j + 1 : Nat) : Int)) ∧ True ∧ True ∧ True) (by kernel_rfl) ⟨trivial, (by rw [i64_wrap (by omega) (by omega)]; omega), trivial, trivial, trivial⟩ ?_
              refine Exists.intro (j + 1, x25) ⟨⟨by omega, by rw [← jv]; exact holdsFrom_step hx26 (by first | assumption | (unfold holdOK prevOf; first | (rw [if_pos (by omega)]; simp_all [notBehind]; done) | (rw [if_neg (by omega)]; simp_all [notBehind]; done) | (simp_all [notBehind]; done) | (simp_all [notBehind]; omega) | (simp_all [notBehind]; intros; omega))), fun _ => by simpa using hx26, trivial⟩, by first | omega | (dsimp only; omega), le_turn [] [1, 43, 44] [] (by kernel_rfl)⟩
          · skip
            have g30 : ¬ (((j : Nat) : Int) < ((h.h.length : Nat) : Int)) := of_decide_eq_false (h22)
            refine T_exit ?_
            refine T_seq ?_
            refine T_reg [{}, { d := some (I (total h)) }] [54] [1] (mk 55 [(54, (dt (B (decide ((total h) > 1125899906842624)))))] []) (True ∧ True ∧ True ∧ (Ret Try.prog 19 [(.agg [(.sl 2 (h.b.map encPay)), (.sl 4 (h.h.map encHold))])] (I (total h))) ∧ True ∧ True ∧ True) (by kernel_rfl) ⟨trivial, trivial, trivial, (ret_total h hb hh hp), trivial, trivial, trivial⟩ ?_
            refine T_cond (decide ((total h) > 1125899906842624)) (by kernel_rfl) (fun h31 => ?_) (fun h31 => ?_)
            · skip
              have g32 : (total h) > 1125899906842624 := of_decide_eq_true (h31)
              refine T_reg [] [2] [] (mk 55 [(2, (dt (I 1)))] []) (True ∧ True ∧ True) (by kernel_rfl) ⟨trivial, trivial, trivial⟩ ?_
              refine T_ret ?_
              exact ret_here [(dt (I 1))] (by kernel_rfl) (.inl (congrArg I (by first | exact chk_yes (cw_ok (by omega) (by omega) (by rw [← iv, List.drop_eq_nil_of_le (by omega)]; rfl) (by rw [← all_taken ic (by omega)]; assumption) (by rw [← jv, List.drop_eq_nil_of_le (by omega)]; rfl) (by omega)) | exact chk_no (cw_len (by omega)) | exact chk_no (cw_total (by omega)) | exact chk_no (cw_clubs (by rw [← all_taken ic (by omega)]; assumption)) | exact chk_no (cw_holds (by rw [← jv]; exact holdsFrom_stop (by assumption) (by first | assumption | (unfold holdOK prevOf; first | (rw [if_pos (by omega)]; simp_all [notBehind]; done) | (rw [if_neg (by omega)]; simp_all [notBehind]; done) | (simp_all [notBehind]; done) | (simp_all [notBehind]; omega) | (simp_all [notBehind]; intros; omega))))) | exact chk_no (cw_amount (by rw [← iv, drop_cons (by assumption), amountsOK, if_pos (by omega)])) : 1 = (check h))))
            · skip
              have g33 : ¬ ((total h) > 1125899906842624) := of_decide_eq_false (h31)
              refine T_skip ?_
              refine T_reg [] [2] [] (mk 55 [(2, (dt (I 0)))] []) (True ∧ True ∧ True) (by kernel_rfl) ⟨trivial, trivial, trivial⟩ ?_
              refine T_ret ?_
              exact ret_here [(dt (I 0))] (by kernel_rfl) (.inl (congrArg I (by first | exact chk_yes (cw_ok (by omega) (by omega) (by rw [← iv, List.drop_eq_nil_of_le (by omega)]; rfl) (by rw [← all_taken ic (by omega)]; assumption) (by rw [← jv, List.drop_eq_nil_of_le (by omega)]; rfl) (by omega)) | exact chk_no (cw_len (by omega)) | exact chk_no (cw_total (by omega)) | exact chk_no (cw_clubs (by rw [← all_taken ic (by omega)]; assumption)) | exact chk_no (cw_holds (by rw [← jv]; exact holdsFrom_stop (by assumption) (by first | assumption | (unfold holdOK prevOf; first | (rw [if_pos (by omega)]; simp_all [notBehind]; done) | (rw [if_neg (by omega)]; simp_all [notBehind]; done) | (simp_all [notBehind]; done) | (simp_all [notBehind]; omega) | (simp_all [notBehind]; intros; omega))))) | exact chk_no (cw_amount (by rw [← iv, drop_cons (by assumption), amountsOK, if_pos (by omega)])) : 0 = (check h))))

end Go.Proofs.Ytpkbecaailhhmaa
