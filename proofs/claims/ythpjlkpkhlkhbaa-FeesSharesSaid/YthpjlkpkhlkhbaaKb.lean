/-
  Texts that belong together, one behind the other; what each of them proves, and under which conditions, its own heading says.
-/
import Derived.Laws.CopyRow
import Derived.Lib.Overlaps
import Derived.ProofKit
import Derived.Handed
import Derived.SizedLaws
import Derived.Deep.Slices
import Derived.RangeFuncNested
import Derived.Maps.OwnSet
import Derived.Lib.SlKeysI
import Derived.Test.YthpjlkpkhlkhbaaKa
/-
  The data-level framework, part p: calls that are entered with the caller's boxes; boxes that become immutable data. Generic in the program; no condition.
-/
set_option linter.unusedVariables false
set_option linter.unusedSimpArgs false
namespace Go.DL
open Go.RowKit

def C.keep (ok : Nat → Bool) : C → C
  | .own i => match ok i with | true => .own i | false => .junk
  | .ref i o => match ok i with | true => .ref i o | false => .junk
  | .rref i k o => match ok i with | true => .rref i k o | false => .junk
  | .fn f caps => match caps.all (fun c => match c with | .inl i => ok i | .inr _ => true) with | true => .fn f caps | false => .junk
  | c => c

def LV.keep (ok : Nat → Bool) : LV → LV
  | .one c => .one (c.keep ok)
  | .agg cs => .agg (cs.map (C.keep ok))
  | .tup vs => .tup (vs.map fun p => (p.1, p.2.map (C.keep ok)))

def capLV : Sum Nat D → LV
  | .inl i => .one (.ref i 0)
  | .inr d => .one (.dat d)

def partOf : LV → Bool × List C
  | .one c => (false, [c])
  | .agg cs => (true, cs)
  | .tup _ => (false, [])

def resLV (ls : List LV) : LV :=
  match ls with
  | [l] => l
  | ls => .tup (ls.map partOf)

def liveIn (bx : List (Nat × Box)) (base : Nat) (i : Nat) : Bool := Nat.blt i base && bx.any fun p => p.1 == i

/-- The caller's state behind the call. -/
def DS.back (s : DS) (bx : List (Nat × Box)) (base : Nat) : DS := ⟨s.sl.map (LV.keep (liveIn bx base)), bx⟩

def inlinePost (P : Program) (fn : Func) (base' : Nat) (N : DS → Prop) (dst : Option Tmp) (s : DS) : DX → DS → Prop
  | .normal, s' => ∃ ls, dres P s' fn.results.toList = some ls ∧ N ((s.back s'.bx base').put dst (resLV ls))
  | .ret, s' => ∃ ls, dres P s' fn.results.toList = some ls ∧ N ((s.back s'.bx base').put dst (resLV ls))
  | _, _ => False

section
variable {P : Program} {w : World} {A : Nat → Prop} {M M' : BMap}

theorem C.keep_rel {ok : Nat → Bool} {c : C} {v : Value} (hM : ∀ i, ok i = true → M'.blk i = M.blk i ∧ M'.rv i = M.rv i ∧ M'.sz i = M.sz i) (h : C.rel w A M c v) : C.rel w A M' (c.keep ok) v := by
  cases c with
  | own i =>
    simp only [C.keep]
    split
    · rename_i hi; simpa [C.rel, hM i hi] using h
    · trivial
  | ref i o =>
    simp only [C.keep]
    split
    · rename_i hi; simpa [C.rel, hM i hi] using h
    · trivial
  | rref i k o =>
    simp only [C.keep]
    split
    · rename_i hi; simpa [C.rel, hM i hi] using h
    · trivial
  | fn f caps =>
    simp only [C.keep]
    split
    · rename_i hi
      obtain ⟨arr, h1, h2, h3⟩ := h
      refine ⟨arr, h1, h2, fun j c hj => ?_⟩
      obtain ⟨u, hu, hr⟩ := h3 j c hj
      refine ⟨u, hu, ?_⟩
      cases c with
      | inl i =>
        have := List.all_eq_true.1 hi _ (List.mem_of_getElem? hj)
        simp only at this
        simpa [capRel, hM i this] using hr
      | inr d => exact hr
    · trivial
  | dat d => exact h
  | junk => trivial

theorem cells_keep {ok : Nat → Bool} {cs : List C} {arr : Array Value} (hM : ∀ i, ok i = true → M'.blk i = M.blk i ∧ M'.rv i = M.rv i ∧ M'.sz i = M.sz i) (h : cellsRel w A M cs arr) : cellsRel w A M' (cs.map (C.keep ok)) arr := by
  refine ⟨by simp [h.1], fun j c hj => ?_⟩
  simp only [List.getElem?_map, Option.map_eq_some_iff] at hj
  obtain ⟨c', hc', rfl⟩ := hj
  obtain ⟨u, hu, hr⟩ := h.2 j c' hc'
  exact ⟨u, hu, C.keep_rel hM hr⟩

theorem LV.keep_rel {ok : Nat → Bool} {l : LV} {v : Value} (hM : ∀ i, ok i = true → M'.blk i = M.blk i ∧ M'.rv i = M.rv i ∧ M'.sz i = M.sz i) (h : LV.rel w A M l v) : LV.rel w A M' (l.keep ok) v := by
  cases l with
  | one c => exact C.keep_rel hM h
  | agg cs => exact let ⟨arr, h1, h2⟩ := h; ⟨arr, h1, cells_keep hM h2⟩
  | tup ps =>
    obtain ⟨arr, h1, h2, h3⟩ := h
    refine ⟨arr, h1, by simp [h2], fun j p hj => ?_⟩
    simp only [List.getElem?_map, Option.map_eq_some_iff] at hj
    obtain ⟨q, hq, rfl⟩ := hj
    obtain ⟨u, hu, hr⟩ := h3 j q hq
    refine ⟨u, hu, ?_⟩
    obtain ⟨b, cs⟩ := q
    cases b with
    | true => exact let ⟨arr, h1, h2⟩ := hr; ⟨arr, h1, cells_keep hM h2⟩
    | false =>
      match cs, hr with
      | [], _ => trivial
      | [c], hr => exact C.keep_rel hM hr
      | _ :: _ :: _, _ => trivial

theorem partOf_rel {l : LV} {v : Value} (h : LV.rel w A M l v) : partRel w A M (partOf l) v := by
  cases l with
  | one c => exact h
  | agg cs => exact h
  | tup ps => trivial

theorem resLV_rel {ls : List LV} {vs : List Value} (hl : vs.length = ls.length) (h : ∀ (j : Nat) (l : LV), ls[j]? = some l → ∃ u, vs[j]? = some u ∧ LV.rel w A M l u) :
    LV.rel w A M (resLV ls) (if h : vs.toArray.size = 1 then vs.toArray[0] else .tuple vs.toArray) := by
  unfold resLV
  split
  · rename_i l
    have : vs.length = 1 := by rw [hl]; rfl
    obtain ⟨x, rfl⟩ := List.length_eq_one_iff.1 this
    obtain ⟨u, hu, hr⟩ := h 0 l rfl
    simp at hu
    subst hu
    simpa using hr
  · rename_i hne
    have hne1 : vs.toArray.size ≠ 1 := by
      intro he
      have : ls.length = 1 := by rw [← hl]; simpa using he
      obtain ⟨l, rfl⟩ := List.length_eq_one_iff.1 this
      exact hne l rfl
    rw [dif_neg hne1]
    refine ⟨vs.toArray, rfl, by simp [hl], fun j p hj => ?_⟩
    simp only [List.getElem?_map, Option.map_eq_some_iff] at hj
    obtain ⟨l, hlj, rfl⟩ := hj
    obtain ⟨u, hu, hr⟩ := h j l hlj
    exact ⟨u, by simpa using hu, partOf_rel hr⟩

/-- A CALL THAT IS ENTERED WITH THE CALLER's BOXES. -/
theorem TL_inline {base : Nat} {ops : Array Oper} {o : Oper} {rest : List Oper} {Q : DX → DS → Prop} {s : DS} (base' : Nat) {fop : Operand} {args : Array Operand} {ts : Array TypeId} (f : FuncId) (caps : List (Sum Nat D)) (fn : Func) (c : Code)
    (ho : o.op = .call { callee := .value fop, args := args, argTypes := ts }) (hg : o.guard = none) (hf : s.ev fop = .one (.fn f caps)) (hfn : P.funcs[f]? = some fn) (hname : (fn.name == "runtime.NumGoroutine") = false) (hb : fn.body = some c) (hbase : base ≤ base')
    (h : T P base' c (inlinePost P fn base' (TL P base ops rest Q) o.dst s) ⟨args.toList.map s.ev ++ (caps.map capLV ++ List.replicate (fn.ntmps - (args.size + caps.length)) (.one .junk)), s.bx⟩) : TL P base ops (o :: rest) Q s := by
  intro E M w a hE hst
  refine wpList_plain hg fun K hK => ?_
  have hslots := ev_rel hst.size hst.slots
  have hfr := hslots fop
  rw [hf] at hfr
  obtain ⟨cv, hfv, hcs, hcv⟩ := hfr
  unfold Oper.wp
  rw [run_call_func ho hfv ⟨fn, hfn, hname, by rw [hb]; rfl⟩, Oper.upon_enter]
  let E' : Env := ⟨w, E.A0, base', M, fun k => ∃ p ∈ s.bx, boxBlk M p = some k, fun i => i ∈ s.bx.map (·.1), []⟩
  have hO : ∀ k, E'.O k → (E.O k ∨ E.w0.heap.size ≤ k) ∧ k < w.heap.size := fun k ⟨p, hp, hk⟩ => hst.boxes.new p hp k hk
  have hbx' : Boxes E' M w s.bx := {
    ok := hst.boxes.ok
    ids := hst.boxes.ids
    blks := hst.boxes.blks
    new := fun p hp k hk => ⟨.inl ⟨p, hp, hk⟩, (hst.boxes.new p hp k hk).2⟩
    foreign := fun b hb => by
      have h1 := hst.boxes.foreign b hb
      refine ⟨Nat.lt_of_lt_of_le h1.1 hst.boxes.frame.size, fun hob => ?_⟩
      rcases (hO b hob).1 with h2 | h2
      · exact h1.2 h2
      · have := h1.1; omega
    frame := Fr.refl _ _
    old := fun p hp _ => ⟨List.mem_map.2 ⟨p, hp, rfl⟩, rfl, rfl, rfl⟩ }
  refine calls_of_wpM hfn hb ?_
  have hst' : St E' M w { tmps := args.map a.eval ++ cv ++ Array.replicate (fn.ntmps - (args.map a.eval ++ cv).size) undef, defers := [] } ⟨args.toList.map s.ev ++ (caps.map capLV ++ List.replicate (fn.ntmps - (args.size + caps.length)) (.one .junk)), s.bx⟩ := by
    refine ⟨rfl, by simp [hcs], fun t l hl => ?_, hbx'⟩
    rw [List.getElem?_append] at hl
    simp only [List.length_map, Array.length_toList] at hl
    rw [Array.append_assoc, Array.getD_eq_getD_getElem?, Array.getElem?_append]
    simp only [Array.size_map]
    split at hl
    · rename_i hlt
      simp only [List.getElem?_map, Option.map_eq_some_iff, Array.getElem?_toList] at hl
      obtain ⟨x, hx, rfl⟩ := hl
      rw [if_pos hlt]
      simp only [Array.getElem?_map, hx, Option.map_some, Option.getD_some]
      exact hslots x
    · rename_i hge
      rw [if_neg hge]
      rw [List.getElem?_append] at hl
      simp only [List.length_map] at hl
      rw [Array.getElem?_append, hcs]
      split at hl
      · rename_i hlt
        rw [if_pos hlt]
        simp only [List.getElem?_map, Option.map_eq_some_iff] at hl
        obtain ⟨cp, hcp, rfl⟩ := hl
        obtain ⟨u, hu, hr⟩ := hcv _ cp hcp
        rw [hu, Option.getD_some]
        cases cp with
        | inl i => exact hr
        | inr d => exact hr
      · rw [List.getElem?_replicate] at hl
        split at hl
        · cases hl; trivial
        · cases hl
  refine wp_mono (h E' M w _ rfl hst') ?_
  rintro e a' wE ⟨E1, hext, x, s', M', hx, hq, hstE⟩
  have key2 : ∀ w', St E' M' w' { a' with defers := [] } s' → (∃ ls, dres P s' fn.results.toList = some ls ∧ TL P base ops rest Q ((s.back s'.bx base').put o.dst (resLV ls))) → ∃ v, (results fn a'.tmps).run P w' = .ok v w' ∧ K (a.put o.dst v) w' := by
    intro w' hst2
    have hFr : Fr E.O E.w0 w' := by
      have h1 := hst2.boxes.frame
      have h2 := hst.boxes.frame
      refine ⟨h1.os.trans h2.os, h1.tape.trans h2.tape, h1.output.trans h2.output, Nat.le_trans h2.size h1.size, fun k hk hok => ?_⟩
      refine (h1.block k (Nat.lt_of_lt_of_le hk h2.size) fun hob => ?_).trans (h2.block k hk hok)
      rcases (hO k hob).1 with h3 | h3
      · exact hok h3
      · omega
    have hBox : Boxes E M' w' s'.bx := {
      ok := hst2.boxes.ok
      ids := hst2.boxes.ids
      blks := hst2.boxes.blks
      new := fun p hp k hk => by
        obtain ⟨h1, h2⟩ := hst2.boxes.new p hp k hk
        refine ⟨?_, h2⟩
        rcases h1 with h1 | h1
        · exact (hO k h1).1
        · exact .inr (Nat.le_trans hst.boxes.frame.size h1)
      foreign := hst.boxes.foreign
      frame := hFr
      old := fun p hp hlt => by
        obtain ⟨h1, h2, h3, h4⟩ := hst2.boxes.old p hp (Nat.lt_of_lt_of_le hlt (by show E.base ≤ base'; omega))
        obtain ⟨p0, hp0, he⟩ := List.mem_map.1 h1
        have := hst.boxes.old p0 hp0 (by rw [he]; exact hlt)
        rw [he] at this
        obtain ⟨g1, g2, g3, g4⟩ := this
        exact ⟨g1, h2.trans g2, h3.trans g3, h4.trans g4⟩ }
    have hKeeps : Keeps w (Av E.A0 M s.bx) w' (Av E.A0 M' s'.bx) := by
      intro b off u h1 h2
      have hlt := World.block_lt_of_cell? w ⟨b, off, none⟩ h2
      have hnO : ¬ E'.O b := fun hob => h1 (.inr hob)
      refine ⟨fun h3 => ?_, ?_⟩
      · rcases h3 with h3 | ⟨p, hp, hk⟩
        · exact h1 (.inl h3)
        · rcases (hst2.boxes.new p hp b hk).1 with h4 | h4
          · exact hnO h4
          · exact absurd hlt (Nat.not_lt.2 h4)
      · rw [World.cell?_of_block (hst2.boxes.frame.block b hlt hnO)]; exact h2
    have hlive : ∀ i, liveIn s'.bx base' i = true → M'.blk i = M.blk i ∧ M'.rv i = M.rv i ∧ M'.sz i = M.sz i := by
      intro i hi
      simp only [liveIn, Bool.and_eq_true, List.any_eq_true, beq_iff_eq] at hi
      obtain ⟨h1, p, hp, he⟩ := hi
      have hlt : i < base' := by simpa [Nat.blt_eq] using h1
      obtain ⟨_, h2, h3, h4⟩ := hst2.boxes.old p hp (by rw [he]; exact hlt)
      rw [he] at h2 h3 h4
      exact ⟨h2, h3, h4⟩
    have hcall : St E M' w' a (s.back s'.bx base') := by
      refine ⟨hst.defers, by simp [DS.back, hst.size], fun t l hl => ?_, hBox⟩
      simp only [DS.back, List.getElem?_map, Option.map_eq_some_iff] at hl
      obtain ⟨l', hl', rfl⟩ := hl
      exact LV.keep_rel hlive ((hst.slots t l' hl').mono hKeeps)
    have key : (∃ ls, dres P s' fn.results.toList = some ls ∧ TL P base ops rest Q ((s.back s'.bx base').put o.dst (resLV ls))) → ∃ v, (results fn a'.tmps).run P w' = .ok v w' ∧ K (a.put o.dst v) w' := by
      rintro ⟨ls, h1, h2⟩
      obtain ⟨vs, h3, h4, h5⟩ := dres_run (P := P) hst2 _ ls h1
      exact ⟨_, results_run fn a'.tmps vs h3, hK _ _ (h2 E M' w' _ hE (hcall.put o.dst (resLV_rel h4 h5)))⟩
    exact key
  have fin : (∃ ls, dres P s' fn.results.toList = some ls ∧ TL P base ops rest Q ((s.back s'.bx base').put o.dst (resLV ls))) → ∃ w2, takeAll P a'.defers wE w2 ∧ ∃ v, (results fn a'.tmps).run P w2 = .ok v w2 ∧ K (a.put o.dst v) w2 := by
    intro hq
    obtain ⟨w2, ht, hst'⟩ := St.atEnd (P := P) hext rfl hbx'.foreign hstE
    exact ⟨w2, ht, key2 _ hst' hq⟩
  cases x with
  | normal =>
    cases e <;> simp only [XRel] at hx
    exact ⟨.inl rfl, fin hq⟩
  | ret =>
    cases e <;> simp only [XRel] at hx
    exact ⟨.inr rfl, fin hq⟩
  | exit id => exact hq.elim
  | panic d => exact hq.elim

/-- Operations of a region one part after the other: first those that are run at once, then what is left. -/
theorem TL_append {base : Nat} {ops : Array Oper} {Q : DX → DS → Prop} : ∀ (l1 l2 : List Oper) (hs : List Hint) (s s' : DS) (side : Prop), dexec P base ops l1 hs s = some (side, s') → side → TL P base ops l2 Q s' → TL P base ops (l1 ++ l2) Q s
  | [], l2, hs, s, s', side, h, _, hq => by
    simp only [dexec, Option.some.injEq, Prod.mk.injEq] at h
    obtain ⟨_, rfl⟩ := h
    exact hq
  | o :: os, l2, hs, s, s', side, h, hside, hq => by
    unfold dexec at h
    split at h
    · cases h
    · rename_i p hw
      split at h
      · rename_i q s2 h2
        simp only [Option.some.injEq, Prod.mk.injEq] at h
        obtain ⟨h1, rfl⟩ := h
        rw [← h1] at hside
        intro E M w a hb hst
        rw [List.cons_append]
        refine wpList_step fun K hK => ?_
        rw [wantB_sound hw hside.1 hst]
        simp only [Bool.false_eq_true, if_false]
        exact hK _ _ (TL_append os l2 _ _ _ q h2 hside.2 hq E M w _ hb (hst.put o.dst (l := UD) ud_rel))
      · cases h
    · rename_i p hw
      split at h
      · cases h
      · rename_i r s1 h3
        split at h
        · rename_i q s2 h2
          simp only [Option.some.injEq, Prod.mk.injEq] at h
          obtain ⟨h1, rfl⟩ := h
          rw [← h1] at hside
          intro E M w a hb hst
          rw [List.cons_append]
          refine wpList_step fun K hK => ?_
          rw [wantB_sound hw hside.1 hst]
          simp only [if_true]
          exact dstep_sound h3 hside.2.1 hst hb K _ fun v w' M' hst' => hK _ _ (TL_append os l2 _ _ _ q h2 hside.2.2 hq E M' w' _ hb hst')
        · cases h

theorem T_region_parts {base id : Nat} {l : List Oper} {Q : DX → DS → Prop} {s : DS} (n : Nat) (hs : List Hint) (s' : DS) (side : Prop) (h : dexec P base l.toArray (l.take n) hs s = some (side, s')) (hside : side) (hq : TL P base l.toArray (l.drop n) Q s') : T P base (.region id l.toArray false) Q s :=
  fun E M w a hb hst => wp_region_lit (by
    have := TL_append (P := P) (base := base) (Q := Q) (l.take n) (l.drop n) hs s s' side h hside hq E M w a hb hst
    rwa [List.take_append_drop] at this)

theorem TL_all {base : Nat} {ops : Array Oper} {l : List Oper} {Q : DX → DS → Prop} {s : DS} (hs : List Hint) (s' : DS) (side : Prop) (h : dexec P base ops l hs s = some (side, s')) (hside : side) (hq : Q .normal s') : TL P base ops l Q s :=
  dexec_sound l hs s s' side h hside hq

/-! ### boxes that become immutable data -/
def C.freeze (id : Nat) (od : Option D) (rd : Option (List D)) : C → C
  | .own i => match i == id with
    | true => match od with
      | some d => .dat d
      | none => .junk
    | false => .own i
  | .ref i o => match i == id with
    | true => match rd with
      | some ds => .dat (.ptr (ds.drop o))
      | none => .junk
    | false => .ref i o
  | .rref i k o => match i == id with
    | true => .junk
    | false => .rref i k o
  | .fn f caps => match caps.any (fun c => match c with | .inl i => i == id | .inr _ => false) with
    | false => .fn f caps
    | true => match rd with
      | some ds => .fn f (caps.map fun c => match c with | .inl i => (match i == id with | true => .inr (.ptr ds) | false => .inl i) | .inr d => .inr d)
      | none => .junk
  | c => c

def LV.freeze (id : Nat) (od : Option D) (rd : Option (List D)) : LV → LV
  | .one c => .one (c.freeze id od rd)
  | .agg cs => .agg (cs.map (C.freeze id od rd))
  | .tup vs => .tup (vs.map fun p => (p.1, p.2.map (C.freeze id od rd)))

def Box.freeze (id : Nat) (od : Option D) (rd : Option (List D)) : Box → Box
  | .var cs => .var (cs.map (C.freeze id od rd))
  | b => b

def boxData : Box → Option D × Option (List D)
  | .row _ sz es => (some (.sl sz es), none)
  | .var cs => (none, allDat cs)
  | .map _ _ _ _ => (none, none)

def DS.freeze (id : Nat) (s : DS) : DS :=
  match s.bx.lookup id with
  | some b => { sl := s.sl.map (LV.freeze id (boxData b).1 (boxData b).2), bx := (s.bx.filter fun p => !(p.1 == id)).map fun p => (p.1, p.2.freeze id (boxData b).1 (boxData b).2) }
  | none => s

theorem C.freeze_rel {id : Nat} {od : Option D} {rd : Option (List D)} {c : C} {v : Value} (h1 : ∀ d, od = some d → RelD w A d (M.rv id)) (h2 : ∀ ds, rd = some ds → ∀ o, RelD w A (.ptr (ds.drop o)) (.pointer (some ⟨M.blk id, o, none⟩))) (h : C.rel w A M c v) :
    C.rel w A M (c.freeze id od rd) v := by
  cases c with
  | own i =>
    simp only [C.freeze]
    split
    · rename_i hi
      have : i = id := by simpa using hi
      subst this
      split
      · rename_i d
        simp only [C.rel] at h
        subst h
        exact h1 d rfl
      · trivial
    · exact h
  | ref i o =>
    simp only [C.freeze]
    split
    · rename_i hi
      have : i = id := by simpa using hi
      subst this
      split
      · rename_i ds
        simp only [C.rel] at h
        subst h
        exact h2 ds rfl o
      · trivial
    · exact h
  | rref i k o =>
    simp only [C.freeze]
    split
    · trivial
    · exact h
  | fn f caps =>
    simp only [C.freeze]
    split
    · exact h
    · split
      · rename_i ds
        obtain ⟨arr, g1, g2, g3⟩ := h
        refine ⟨arr, g1, by simp [g2], fun j c hj => ?_⟩
        simp only [List.getElem?_map, Option.map_eq_some_iff] at hj
        obtain ⟨c', hc', rfl⟩ := hj
        obtain ⟨u, hu, hr⟩ := g3 j c' hc'
        refine ⟨u, hu, ?_⟩
        cases c' with
        | inl i =>
          simp only
          split
          · rename_i hi
            have : i = id := by simpa using hi
            subst this
            simp only [capRel] at hr ⊢
            subst hr
            exact h2 ds rfl 0
          · exact hr
        | inr d => exact hr
      · trivial
  | dat d => exact h
  | junk => trivial

theorem cells_freeze {id : Nat} {od : Option D} {rd : Option (List D)} {cs : List C} {arr : Array Value} (h1 : ∀ d, od = some d → RelD w A d (M.rv id)) (h2 : ∀ ds, rd = some ds → ∀ o, RelD w A (.ptr (ds.drop o)) (.pointer (some ⟨M.blk id, o, none⟩))) (h : cellsRel w A M cs arr) :
    cellsRel w A M (cs.map (C.freeze id od rd)) arr := by
  refine ⟨by simp [h.1], fun j c hj => ?_⟩
  simp only [List.getElem?_map, Option.map_eq_some_iff] at hj
  obtain ⟨c', hc', rfl⟩ := hj
  obtain ⟨u, hu, hr⟩ := h.2 j c' hc'
  exact ⟨u, hu, C.freeze_rel h1 h2 hr⟩

theorem LV.freeze_rel {id : Nat} {od : Option D} {rd : Option (List D)} {l : LV} {v : Value} (h1 : ∀ d, od = some d → RelD w A d (M.rv id)) (h2 : ∀ ds, rd = some ds → ∀ o, RelD w A (.ptr (ds.drop o)) (.pointer (some ⟨M.blk id, o, none⟩))) (h : LV.rel w A M l v) :
    LV.rel w A M (l.freeze id od rd) v := by
  cases l with
  | one c => exact C.freeze_rel h1 h2 h
  | agg cs => exact let ⟨arr, g1, g2⟩ := h; ⟨arr, g1, cells_freeze h1 h2 g2⟩
  | tup ps =>
    obtain ⟨arr, g1, g2, g3⟩ := h
    refine ⟨arr, g1, by simp [g2], fun j p hj => ?_⟩
    simp only [List.getElem?_map, Option.map_eq_some_iff] at hj
    obtain ⟨q, hq, rfl⟩ := hj
    obtain ⟨u, hu, hr⟩ := g3 j q hq
    refine ⟨u, hu, ?_⟩
    obtain ⟨b, cs⟩ := q
    cases b with
    | true => exact let ⟨arr, g1, g2⟩ := hr; ⟨arr, g1, cells_freeze h1 h2 g2⟩
    | false =>
      match cs, hr with
      | [], _ => trivial
      | [c], hr => exact C.freeze_rel h1 h2 hr
      | _ :: _ :: _, _ => trivial

theorem boxBlk_freeze {id : Nat} {od : Option D} {rd : Option (List D)} {i : Nat} {b : Box} : boxBlk M (i, b.freeze id od rd) = boxBlk M (i, b) := by
  cases b <;> rfl

/-- A box becomes immutable data. -/
theorem DS.le_freeze (s : DS) (id : Nat) : s.Le (s.freeze id) := by
  intro E M w a h
  unfold DS.freeze
  split
  case h_2 => exact ⟨M, h⟩
  rename_i b hl
  have hm := lookup_mem hl
  refine ⟨M, ?_⟩
  generalize hod : (boxData b).1 = od
  generalize hrd : (boxData b).2 = rd
  let bx' := (s.bx.filter fun p => !(p.1 == id)).map fun p => (p.1, p.2.freeze id od rd)
  have hmem : ∀ p ∈ bx', p.1 ≠ id ∧ ∃ b', (p.1, b') ∈ s.bx ∧ p.2 = b'.freeze id od rd := by
    intro p hp
    simp only [bx', List.mem_map, List.mem_filter] at hp
    obtain ⟨q, ⟨hq, hne⟩, rfl⟩ := hp
    exact ⟨by simpa using hne, q.2, hq, rfl⟩
  have hblk : ∀ p ∈ bx', ∀ k, boxBlk M p = some k → ∃ q ∈ s.bx, boxBlk M q = some k ∧ q.1 = p.1 := by
    intro p hp k hk
    obtain ⟨hne, b', hb', he⟩ := hmem p hp
    obtain ⟨i, bb⟩ := p
    simp only at he
    subst he
    rw [boxBlk_freeze] at hk
    exact ⟨_, hb', hk, rfl⟩
  have hsub : ∀ k, Av E.A0 M bx' k → Av E.A0 M s.bx k ∧ boxBlk M (id, b) ≠ some k := by
    rintro k (hk | ⟨p, hp, hk⟩)
    · refine ⟨.inl hk, fun hb => ?_⟩
      have h1 := (h.boxes.new _ hm k hb).1
      have h2 := h.boxes.foreign k hk
      rcases h1 with h1 | h1
      · exact h2.2 h1
      · have := h2.1; omega
    · obtain ⟨q, hq, hqk, hqi⟩ := hblk p hp k hk
      refine ⟨.inr ⟨q, hq, hqk⟩, fun hb => ?_⟩
      have := blks_inj h.boxes.blks q hq _ hm k hqk hb
      rw [this] at hqi
      exact (hmem p hp).1 hqi.symm
  have hk : Keeps w (Av E.A0 M s.bx) w (Av E.A0 M bx') := Keeps.sub fun k hk => (hsub k hk).1
  have h1 : ∀ d, od = some d → RelD w (Av E.A0 M bx') d (M.rv id) := by
    intro d hd
    cases b with
    | var cs => simp [boxData] at hod; rw [← hod] at hd; cases hd
    | map Q k e m => simp [boxData] at hod; rw [← hod] at hd; cases hd
    | row e sz es =>
      simp only [boxData] at hod
      rw [← hod] at hd
      cases hd
      exact row_rel _ (fun k hk => ⟨(hsub k hk).1, by have := (hsub k hk).2; simpa [boxBlk] using this⟩) (h.boxes.ok id _ hm)
  have h2 : ∀ ds, rd = some ds → ∀ o, RelD w (Av E.A0 M bx') (.ptr (ds.drop o)) (.pointer (some ⟨M.blk id, o, none⟩)) := by
    intro ds hds o
    cases b with
    | row e sz es => simp [boxData] at hrd; rw [← hrd] at hds; cases hds
    | map Q k e m => simp [boxData] at hrd; rw [← hrd] at hds; cases hds
    | var cs =>
      simp only [boxData] at hrd
      rw [← hrd] at hds
      have hcs := allDat_map cs ds hds
      obtain ⟨arr, T, hg, hc⟩ := h.boxes.ok id _ hm
      have hnot : ¬ Av E.A0 M bx' (M.blk id) := fun hb => (hsub _ hb).2 rfl
      have hcell : ∀ (j : Nat) (c : D), ds[j]? = some c → ∃ u, arr[j]? = some u ∧ RelD w (Av E.A0 M bx') c u := by
        intro j c hj
        obtain ⟨u, hu, hr⟩ := hc.2 j (.dat c) (by rw [hcs, List.getElem?_map, hj]; rfl)
        exact ⟨u, hu, RelD.mono hk hr⟩
      refine .ptr _ (M.blk id) o (fun j => arr.getD (o + j) undef) (fun j c hj => ?_) (fun j c hj => ?_)
      · rw [List.getElem?_drop] at hj
        obtain ⟨u, hu, _⟩ := hcell _ c hj
        exact ⟨hnot, by rw [cell_of_row w _ _ arr T (0, 0) hg]; simp [hu]⟩
      · rw [List.getElem?_drop] at hj
        obtain ⟨u, hu, hr⟩ := hcell _ c hj
        simpa [hu] using hr
  refine ⟨h.defers, by simp [h.size], fun t l hl' => ?_, ?_⟩
  · simp only [List.getElem?_map, Option.map_eq_some_iff] at hl'
    obtain ⟨l', hl2, rfl⟩ := hl'
    exact LV.freeze_rel h1 h2 ((h.slots t l' hl2).mono hk)
  · refine {
      ok := fun i b' hb => ?_
      ids := ?_
      blks := ?_
      new := fun p hp k hpk => ?_
      foreign := h.boxes.foreign
      frame := h.boxes.frame
      old := fun p hp hlt => ?_ }
    · obtain ⟨hne, b0, hb0, he⟩ := hmem _ hb
      simp only at he
      subst he
      have hok := (h.boxes.ok i b0 hb0).mono hk (fun _ _ => rfl)
      cases b0 with
      | var cs =>
        obtain ⟨arr, T, g1, g2⟩ := hok
        exact ⟨arr, T, g1, cells_freeze h1 h2 g2⟩
      | row e sz es => exact hok
      | map Q k e m => exact hok
    · have : bx'.map (·.1) = (s.bx.filter fun p => !(p.1 == id)).map (·.1) := by simp [bx', List.map_map]
      show (bx'.map (·.1)).Nodup
      rw [this]
      exact (h.boxes.ids.sublist ((List.filter_sublist).map _))
    · have : bx'.filterMap (boxBlk M) = (s.bx.filter fun p => !(p.1 == id)).filterMap (boxBlk M) := by
        simp only [bx', List.filterMap_map]
        refine filterMap_congr' fun p _ => ?_
        show boxBlk M (p.1, p.2.freeze id od rd) = boxBlk M p
        rw [boxBlk_freeze]
      show (bx'.filterMap (boxBlk M)).Nodup
      rw [this]
      exact h.boxes.blks.sublist ((List.filter_sublist).filterMap _)
    · obtain ⟨q, hq, hqk, _⟩ := hblk p hp k hpk
      exact h.boxes.new q hq k hqk
    · obtain ⟨hne, b0, hb0, he⟩ := hmem p hp
      exact h.boxes.old (p.1, b0) hb0 hlt
end
end Go.DL

/-
  The data-level framework, part q: states written sparsely, and the rules as a program types them. Generic in the program; no condition.
-/
set_option linter.unusedVariables false
set_option linter.unusedSimpArgs false
namespace Go.DL
open Go.RowKit

abbrev J : LV := .one .junk
abbrev dt (d : D) : LV := .one (.dat d)
abbrev I (n : Int) : D := .int .i64 n
abbrev B (b : Bool) : D := .bool b
abbrev dI (n : Int) : LV := .one (.dat (.int .i64 n))
abbrev dB (b : Bool) : LV := .one (.dat (.bool b))
abbrev cI (n : Int) : C := .dat (.int .i64 n)
abbrev cB (b : Bool) : C := .dat (.bool b)
abbrev nilS : D := .con (.slice none 0 0)

/-- A state of n slots, of which those that are listed hold something. -/
def mk (n : Nat) (l : List (Nat × LV)) (bx : List (Nat × Box)) : DS := ⟨(List.range n).map fun i => (l.lookup i).getD J, bx⟩

def maskL (live : List Nat) : List LV → Nat → List LV
  | [], _ => []
  | l :: ls, i => (match live.contains i with | true => l | false => J) :: maskL live ls (i + 1)

def DS.prune (live dead : List Nat) (s : DS) : DS := dead.foldl (fun s i => s.drop i) ⟨maskL live s.sl 0, s.bx⟩

theorem maskL_length (live : List Nat) : ∀ (ls : List LV) (i : Nat), (maskL live ls i).length = ls.length
  | [], _ => rfl
  | _ :: ls, i => by simp [maskL, maskL_length live ls]

theorem maskL_get (live : List Nat) : ∀ (ls : List LV) (i t : Nat) (l : LV), (maskL live ls i)[t]? = some l → l = J ∨ ls[t]? = some l
  | [], _, t, l, h => by simp [maskL] at h
  | x :: ls, i, 0, l, h => by
    simp only [maskL, List.getElem?_cons_zero, Option.some.injEq] at h
    split at h
    · exact .inr (by simpa using h)
    · exact .inl h.symm
  | x :: ls, i, t + 1, l, h => by simpa using maskL_get live ls (i + 1) t l (by simpa [maskL] using h)

theorem DS.le_prune (s : DS) (live dead : List Nat) : s.Le (s.prune live dead) := by
  have h1 : s.Le ⟨maskL live s.sl 0, s.bx⟩ := by
    intro E M w a h
    refine ⟨M, h.defers, by rw [h.size]; exact (maskL_length _ _ _).symm, fun t l hl => ?_, h.boxes⟩
    rcases maskL_get _ _ _ _ _ hl with rfl | hl'
    · trivial
    · exact h.slots t l hl'
  unfold DS.prune
  generalize (⟨maskL live s.sl 0, s.bx⟩ : DS) = s1 at h1 ⊢
  induction dead generalizing s1 with
  | nil => exact h1
  | cons i l ih => exact ih _ (h1.trans (DS.le_drop s1 i))

theorem DS.le_of_eq {s s' : DS} (h : s = s') : s.Le s' := h ▸ DS.Le.refl s

/-- Freezing boxes, one after the other, and then forgetting. -/
def DS.ice (ids : List Nat) (s : DS) : DS := ids.foldl (fun s i => s.freeze i) s

theorem DS.le_ice (s : DS) (ids : List Nat) : s.Le (s.ice ids) := by
  unfold DS.ice
  have : ∀ (ids : List Nat) (s1 : DS), s.Le s1 → s.Le (ids.foldl (fun s i => s.freeze i) s1) := by
    intro ids
    induction ids with
    | nil => exact fun _ h => h
    | cons i l ih => exact fun s1 h => ih _ (h.trans (DS.le_freeze s1 i))
  exact this ids s (DS.Le.refl s)

section
variable {P : Program} {base id : Nat} {l : List Oper} {Q : DX → DS → Prop} {s : DS}

/-- The way through a region, with what is kept behind it. -/
def way (P : Program) (base : Nat) (l : List Oper) (hs : List Hint) (live dead : List Nat) (s : DS) : Option (Prop × DS) :=
  (dexec P base l.toArray l hs s).map fun r => (r.1, r.2.prune live dead)

def wayD (P : Program) (base : Nat) (l : List Oper) (n : Nat) (hs : List Hint) (live dead : List Nat) (s : DS) : Option (Prop × DS) :=
  (dexecDraw P base l n hs s).map fun r => (r.1, r.2.prune live dead)

def QLe (Q : DX → DS → Prop) : Prop := ∀ x s s', s.Le s' → Q x s' → Q x s

theorem T_reg (hs : List Hint) (live dead : List Nat) (s' : DS) (side : Prop) (h : way P base l hs live dead s = some (side, s')) (hside : side) {y : Code} (hq : T P base y Q s') : T P base (.seq (.region id l.toArray false) y) Q s := by
  unfold way at h
  simp only [Option.map_eq_some_iff, Prod.mk.injEq] at h
  obtain ⟨⟨sd, s1⟩, h1, rfl, rfl⟩ := h
  exact T_seq (T_region hs s1 sd h1 hside (T_le (DS.le_prune s1 live dead) hq))

theorem T_regD (n : Nat) (hs : List Hint) (live dead : List Nat) (s' : DS) (side : Prop) (hm : P.follows .mixedOrders = true) (hok : drawOk l.toArray n = true) (h : wayD P base l n hs live dead s = some (side, s')) (hside : side) {y : Code} (hq : T P base y Q s') : T P base (.seq (.region id l.toArray true) y) Q s := by
  unfold wayD at h
  simp only [Option.map_eq_some_iff, Prod.mk.injEq] at h
  obtain ⟨⟨sd, s1⟩, h1, rfl, rfl⟩ := h
  exact T_seq (T_draw n hs s1 sd hm hok h1 hside (T_le (DS.le_prune s1 live dead) hq))

/-- The last region of a piece. -/
theorem T_regE (hs : List Hint) (s' : DS) (side : Prop) (h : dexec P base l.toArray l hs s = some (side, s')) (hside : side) (hq : Q .normal s') : T P base (.region id l.toArray false) Q s := T_region hs s' side h hside hq

theorem T_regDE (n : Nat) (hs : List Hint) (s' : DS) (side : Prop) (hm : P.follows .mixedOrders = true) (hok : drawOk l.toArray n = true) (h : dexecDraw P base l n hs s = some (side, s')) (hside : side) (hq : Q .normal s') : T P base (.region id l.toArray true) Q s := T_draw n hs s' side hm hok h hside hq

/-- The state is written otherwise, some boxes frozen, and the rest forgotten. -/
theorem T_turn {c : Code} (ice live dead : List Nat) (s' : DS) (h : (s.ice ice).prune live dead = s') (hq : T P base c Q s') : T P base c Q s :=
  T_le ((DS.le_ice s ice).trans ((DS.le_prune _ live dead).trans (DS.le_of_eq h))) hq

theorem le_turn (ice live dead : List Nat) {s s' : DS} (h : (s.ice ice).prune live dead = s') : s.Le s' :=
  (DS.le_ice s ice).trans ((DS.le_prune _ live dead).trans (DS.le_of_eq h))

theorem ret_here {fn : Func} {d : D} (ls : List LV) (h : dres P s fn.results.toList = some ls) (hf : resFit s.bx ls d) : retPost P fn d .ret s := ⟨ls, h, hf⟩
theorem end_here {fn : Func} {d : D} (ls : List LV) (h : dres P s fn.results.toList = some ls) (hf : resFit s.bx ls d) : retPost P fn d .normal s := ⟨ls, h, hf⟩
end

theorem not_f {b : Bool} (h : (!b) = false) : b = true := by cases b <;> simp_all
theorem not_t {b : Bool} (h : (!b) = true) : b = false := by cases b <;> simp_all
theorem bne_f {x y : Int} (h : (x != y) = false) : x = y := by simpa using h

theorem i64_wrap {x : Int} (h1 : -9223372036854775808 ≤ x) (h2 : x ≤ 9223372036854775807) : IntKind.i64.wrap x = x := by
  rw [IntKind.wrap_i64]; omega

theorem nat_succ {k : Nat} {j : Nat} (h : k + j ≤ 9223372036854775807) : IntKind.i64.wrap ((k : Int) + (j : Int)) = ((k + j : Nat) : Int) := by
  rw [i64_wrap (by omega) (by omega)]; omega
end Go.DL

/-
  The data-level framework, part r: regions in parts, with calls that are entered and tests that data do not decide. Generic in the program; no condition.
-/
set_option linter.unusedVariables false
set_option linter.unusedSimpArgs false
namespace Go.DL
open Go.RowKit

section
variable {P : Program} {base id : Nat} {Q : DX → DS → Prop} {s : DS}

/-- Some operations of a region are run at once; what follows is cut off the list. -/
theorem TL_part {ops : Array Oper} {l : List Oper} (n : Nat) (hs : List Hint) (s' : DS) (side : Prop) (h : dexec P base ops (l.take n) hs s = some (side, s')) (hside : side) {l2 : List Oper} (hl : l.drop n = l2) (hq : TL P base ops l2 Q s') : TL P base ops l Q s := by
  subst hl
  have := TL_append (P := P) (base := base) (Q := Q) (ops := ops) (l.take n) (l.drop n) hs s s' side h hside hq
  rwa [List.take_append_drop] at this

theorem TL_turn {ops : Array Oper} {l : List Oper} (ice live dead : List Nat) (s' : DS) (h : (s.ice ice).prune live dead = s') (hq : TL P base ops l Q s') : TL P base ops l Q s :=
  TL_le ((DS.le_ice s ice).trans ((DS.le_prune _ live dead).trans (DS.le_of_eq h))) hq

theorem T_parts {l : List Oper} (hq : TL P base l.toArray l Q s) : T P base (.region id l.toArray false) Q s :=
  fun E M w a hb hst => wp_region_lit (hq E M w a hb hst)

theorem TL_nilQ {ops : Array Oper} (h : Q .normal s) : TL P base ops [] Q s := TL_all [] s True rfl trivial h

/-- The test of a slice against nil, where its data do not tell: both ways are to be walked; if it is nil it is empty. -/
theorem TL_nil {ops : Array Oper} {o : Oper} {l : List Oper} {t t2 : TypeId} {x : Operand} {sz : Nat} {es : List D}
    (ho : o.op = .binOp .eql t x (.const (.slice none 0 0)) t2) (hg : o.guard = none) (ht : ∃ e, P.underlying t = some (.slice e)) (hx : s.ev x = .one (.dat (.sl sz es)))
    (h : ∀ b : Bool, (b = true → es = []) → TL P base ops l Q (s.put o.dst (dt (.bool b)))) : TL P base ops (o :: l) Q s := by
  intro E M w a hE hst
  refine wpList_plain hg fun K hK => ?_
  have hr := ev_rel hst.size hst.slots x
  rw [hx] at hr
  obtain ⟨e, hu⟩ := ht
  have key : ∃ ad n c, a.eval x = .slice ad n c ∧ (ad.isNone = true → es = []) := by
    generalize a.eval x = v at hr ⊢
    simp only [LV.rel, C.rel] at hr
    cases hr with
    | sl _ _ b off cap vs => exact ⟨_, _, _, rfl, fun h => by simp at h⟩
    | sl0 _ ad c _ => exact ⟨ad, 0, c, rfl, fun _ => rfl⟩
  obtain ⟨ad, n, c, hv, hn⟩ := key
  refine PStep.of_run (lv := dt (.bool ad.isNone)) (v := .bool ad.isNone) (A := Av E.A0 M s.bx) (M := M) ?_ (RelD.bool _) K _ fun v w' hw hl => ?_
  · have e1 : a.eval (.const (.slice none 0 0)) = .slice none 0 0 := rfl
    have hg' := run_eqGuard_plain (P := P) (w := w) .eql t x (.const (.slice none 0 0)) (.slice ad n c) (.slice none 0 0) (by simp) (by simp)
    rw [execOp, ho]
    simp only [hv, e1, Sem.run_bind, hg', Result.andThen_ok]
    simp [binOp, Op.equal, Op.maxDepth, equal_nil 9999 t e hu]
  · exact hK _ _ (h ad.isNone hn E M w' _ hE ((hst.below hw).put o.dst hl))
end
theorem u64_wrap {x : Int} (h1 : 0 ≤ x) (h2 : x ≤ 18446744073709551615) : IntKind.u64.wrap x = x := by
  simp only [IntKind.wrap, IntKind.bits, IntKind.signed]; simp; omega
theorem u32_wrap {x : Int} (h1 : 0 ≤ x) (h2 : x ≤ 4294967295) : IntKind.u32.wrap x = x := by
  simp only [IntKind.wrap, IntKind.bits, IntKind.signed]; simp; omega
theorem u16_wrap {x : Int} (h1 : 0 ≤ x) (h2 : x ≤ 65535) : IntKind.u16.wrap x = x := by
  simp only [IntKind.wrap, IntKind.bits, IntKind.signed]; simp; omega
theorem u8_wrap {x : Int} (h1 : 0 ≤ x) (h2 : x ≤ 255) : IntKind.u8.wrap x = x := by
  simp only [IntKind.wrap, IntKind.bits, IntKind.signed]; simp; omega
theorem i32_wrap {x : Int} (h1 : -2147483648 ≤ x) (h2 : x ≤ 2147483647) : IntKind.i32.wrap x = x := by
  simp only [IntKind.wrap, IntKind.bits, IntKind.signed]; simp; omega
theorem i16_wrap {x : Int} (h1 : -32768 ≤ x) (h2 : x ≤ 32767) : IntKind.i16.wrap x = x := by
  simp only [IntKind.wrap, IntKind.bits, IntKind.signed]; simp; omega
theorem i8_wrap {x : Int} (h1 : -128 ≤ x) (h2 : x ≤ 127) : IntKind.i8.wrap x = x := by
  simp only [IntKind.wrap, IntKind.bits, IntKind.signed]; simp; omega
end Go.DL

/-
  The data-level framework, part s: a nil slice that is to grow is taken as an empty row of the call's own. Generic in the program; no condition.
-/
set_option linter.unusedVariables false
set_option linter.unusedSimpArgs false
namespace Go.DL
open Go.RowKit

def DS.ownSlot (t id : Nat) (e : TypeId) (sz : Nat) (s : DS) : Option DS :=
  match (s.drop id).sl[t]? with
  | some (.one (.dat (.con (.slice none 0 0)))) => some { ((s.drop id).push id (.row e sz [])) with sl := (s.drop id).sl.set t (.one (.own id)) }
  | _ => none

def DS.ownCell (i off id : Nat) (e : TypeId) (sz : Nat) (s : DS) : Option DS :=
  match ((s.drop id).push id (.row e sz [])).bx.lookup i with
  | some (.var cs) => match cs[off]? with
    | some (.dat (.con (.slice none 0 0))) => some (((s.drop id).push id (.row e sz [])).setBox i (.var (cs.set off (.own id))))
    | _ => none
  | _ => none

section
variable {P : Program} {w : World} {M : BMap} {base : Nat} {Q : DX → DS → Prop} {s : DS}

theorem St.pushNil {E : Env} {a : Act} (h : St E M w a s) (id : Nat) (e : TypeId) (sz : Nat) (hb : E.base ≤ id) :
    St E (M.upd id 0 (.slice none 0 0) sz) w a ((s.drop id).push id (.row e sz [])) := by
  refine StA.push (h.toA.drop id 0 (.slice none 0 0) sz) drop_free hb (row := none) ⟨rfl, rfl, rfl, Nat.le_refl _, fun _ _ _ => rfl⟩ (fun k hk => by cases hk) (fun b hb => Av_drop hb) (fun k hk => ?_) fun A' _ => ?_
  · simp [boxBlk, BMap.upd, Value.ownBlock] at hk
  · refine ⟨[], ⟨by simp, .inl ⟨by simp [BMap.upd], rfl⟩⟩, by simp, by simp [BMap.upd], fun j c hj => by simp [flat] at hj, fun k hk => by simp [BMap.upd, Value.ownBlock] at hk⟩

theorem nil_rel {A : Nat → Prop} {v : Value} (h : RelD w A (.con (.slice none 0 0)) v) : v = .slice none 0 0 := by cases h; rfl

theorem T_ownSlot {c : Code} (t id : Nat) (e : TypeId) (sz : Nat) (s' : DS) (h : s.ownSlot t id e sz = some s') (hb : Nat.ble base id = true) (hq : T P base c Q s') : T P base c Q s := by
  intro E M w a hE hst
  unfold DS.ownSlot at h
  split at h
  · rename_i hs
    simp only [Option.some.injEq] at h
    subst h
    have h1 := hst.pushNil id e sz (by rw [hE]; exact Nat.le_of_ble_eq_true hb)
    refine hq E _ w a hE ⟨h1.defers, by rw [h1.size]; simp [DS.push], fun t' l hl => ?_, h1.boxes⟩
    simp only [List.getElem?_set] at hl
    split at hl
    · rename_i he
      subst he
      split at hl
      · cases hl
        have h2 := h1.slots t _ hs
        simp only [LV.rel, C.rel] at h2 ⊢
        rw [nil_rel h2]
        simp [BMap.upd]
      · cases hl
    · exact h1.slots t' l hl
  · cases h

theorem T_ownCell {c : Code} (i off id : Nat) (e : TypeId) (sz : Nat) (s' : DS) (h : s.ownCell i off id e sz = some s') (hb : Nat.ble base id = true) (hq : T P base c Q s') : T P base c Q s := by
  intro E M w a hE hst
  unfold DS.ownCell at h
  split at h
  · rename_i cs hl
    split at h
    · rename_i hc
      simp only [Option.some.injEq] at h
      subst h
      have h1 := hst.pushNil id e sz (by rw [hE]; exact Nat.le_of_ble_eq_true hb)
      have hm := lookup_mem hl
      refine hq E _ w a hE (h1.setBox (b := .var (cs.set off (.own id))) hm rfl ⟨rfl, rfl, rfl, Nat.le_refl _, fun _ _ _ => rfl⟩ fun A' hA' => ?_)
      obtain ⟨arr, T, hg, hcr⟩ := h1.boxes.ok i _ hm
      refine ⟨arr, T, hg, by rw [hcr.1, List.length_set], fun j c hj => ?_⟩
      rw [List.getElem?_set] at hj
      split at hj
      · rename_i he
        subst he
        split at hj
        · cases hj
          obtain ⟨u, hu, hr⟩ := hcr.2 off _ hc
          simp only [C.rel] at hr
          exact ⟨u, hu, by rw [nil_rel hr]; simp [C.rel, BMap.upd]⟩
        · cases hj
      · obtain ⟨u, hu, hr⟩ := hcr.2 j c hj
        exact ⟨u, hu, hr.mono hA'⟩
    · cases h
  · cases h
end
end Go.DL

/-
  The data-level framework, part t: regions that draw their order and hold one allocation, which may come at any time. Generic in the program; no condition.
-/
set_option linter.unusedVariables false
set_option linter.unusedSimpArgs false
namespace Go.DL
open Go.RowKit

/-- The operations that only make values, and at place m one that makes a box with number id. -/
def pexecA (P : Program) (ops : Array Oper) (m : Nat) (lv0 : LV) : List Oper → List Hint → Nat → DS → Option (Prop × List LV × DS)
  | [], _, _, s => some (True, [], s)
  | o :: os, hs, k, s =>
    match k == m with
    | true => match pexecA P ops m lv0 os hs.tail (k + 1) (s.put o.dst lv0) with
      | some (q, vs, s') => some (q, lv0 :: vs, s')
      | none => none
    | false => match wantB ops o s (hs.headD {}).g with
      | none => none
      | some (p, false) => match pexecA P ops m lv0 os hs.tail (k + 1) (s.put o.dst UD) with
        | some (q, vs, s') => some (p ∧ q, UD :: vs, s')
        | none => none
      | some (p, true) => match pval P s.ev s.bx (hs.headD {}).d o with
        | none => none
        | some (r, lv) => match pexecA P ops m lv0 os hs.tail (k + 1) (s.put o.dst lv) with
          | some (q, vs, s') => some (p ∧ r ∧ q, lv :: vs, s')
          | none => none

def fixVals (ops : Array Oper) (m id : Nat) : Nat → List LV → List LV
  | _, [] => []
  | k, v :: vs => (match k == m || Region.waitsFor .any ops k m with | true => v | false => v.scrub id) :: fixVals ops m id (k + 1) vs

theorem fixVals_get {ops : Array Oper} {m id : Nat} : ∀ {vs : List LV} {k : Nat}, fixVals ops m id k vs = vs → ∀ j v, vs[j]? = some v → (k + j = m ∨ Region.waitsFor .any ops (k + j) m = true) ∨ v.scrub id = v
  | [], _, _, j, v, h => by simp at h
  | x :: xs, k, h, 0, v, hv => by
    simp only [List.getElem?_cons_zero, Option.some.injEq] at hv
    subst hv
    simp only [fixVals, List.cons.injEq] at h
    have h1 := h.1
    split at h1
    · rename_i hc
      simp only [Bool.or_eq_true, beq_iff_eq] at hc
      exact .inl hc
    · exact .inr h1
  | x :: xs, k, h, j + 1, v, hv => by
    simp only [fixVals, List.cons.injEq] at h
    have := fixVals_get h.2 j v (by simpa using hv)
    rw [show k + (j + 1) = k + 1 + j by omega]
    exact this

section
variable {P : Program} {w : World} {A : Nat → Prop} {M : BMap}

theorem C.scrub_scrub (id : Nat) (c : C) : (c.scrub id).scrub id = c.scrub id := by
  cases c with
  | own i => cases h : (i == id) <;> simp [C.scrub, h]
  | ref i o => cases h : (i == id) <;> simp [C.scrub, h]
  | rref i k o => cases h : (i == id) <;> simp [C.scrub, h]
  | fn f caps =>
    have e : C.scrub id (.fn f caps) = .junk ∨ C.scrub id (.fn f caps) = .fn f caps := by
      simp only [C.scrub]
      split
      · exact .inl rfl
      · exact .inr rfl
    rcases e with e | e
    · rw [e]; rfl
    · rw [e, e]
  | _ => rfl
theorem LV.scrub_scrub (id : Nat) (l : LV) : (l.scrub id).scrub id = l.scrub id := by
  cases l <;> simp [LV.scrub, C.scrub_scrub, Function.comp_def]
theorem Box.scrub_scrub (id : Nat) (b : Box) : (b.scrub id).scrub id = b.scrub id := by
  cases b <;> simp [Box.scrub, C.scrub_scrub, Function.comp_def]
theorem DS.drop_bx_drop (id : Nat) (s : DS) (l : List LV) : (DS.drop id ⟨l, (s.drop id).bx⟩).bx = (s.drop id).bx := by
  simp only [DS.drop, List.filter_map, List.map_map]
  have : (s.bx.filter fun p => !(p.1 == id)).filter ((fun p => !(p.1 == id)) ∘ fun p => (p.1, p.2.scrub id)) = s.bx.filter fun p => !(p.1 == id) := by
    rw [List.filter_filter]
    refine List.filter_congr fun p _ => ?_
    simp
  rw [this]
  refine List.map_congr_left fun p _ => ?_
  simp [Box.scrub_scrub]

theorem pexecA_steps {ops : Array Oper} {m : Nat} {lv0 : LV} : ∀ (l : List Oper) (hs : List Hint) (k : Nat) (s s' : DS) (vs : List LV) (side : Prop), pexecA P ops m lv0 l hs k s = some (side, vs, s') → side →
    vs.length = l.length ∧ ∃ (st : Nat → DS), st 0 = s ∧ st l.length = s' ∧ ∀ i o, l[i]? = some o → ∃ v, vs[i]? = some v ∧ st (i + 1) = (st i).put o.dst v ∧ (k + i = m → v = lv0) ∧ (k + i ≠ m → Good P ops (st i) o v)
  | [], hs, k, s, s', vs, side, h, _ => by
    simp only [pexecA, Option.some.injEq, Prod.mk.injEq] at h
    obtain ⟨_, rfl, rfl⟩ := h
    exact ⟨rfl, fun _ => s, rfl, rfl, fun i o hi => by simp at hi⟩
  | o :: os, hs, k, s, s', vs, side, h, hside => by
    unfold pexecA at h
    have cons : ∀ (v0 : LV) (q : Prop) (ws : List LV), pexecA P ops m lv0 os hs.tail (k + 1) (s.put o.dst v0) = some (q, ws, s') → q → (k = m → v0 = lv0) → (k ≠ m → Good P ops s o v0) →
        (v0 :: ws).length = (o :: os).length ∧ ∃ (st : Nat → DS), st 0 = s ∧ st (o :: os).length = s' ∧ ∀ i o', (o :: os)[i]? = some o' → ∃ v, (v0 :: ws)[i]? = some v ∧ st (i + 1) = (st i).put o'.dst v ∧ (k + i = m → v = lv0) ∧ (k + i ≠ m → Good P ops (st i) o' v) := by
      intro v0 q ws hq hqs hm hg
      obtain ⟨hl, st, h1, h2, h3⟩ := pexecA_steps os hs.tail (k + 1) _ s' ws q hq hqs
      refine ⟨by simp [hl], fun i => match i with | 0 => s | i + 1 => st i, rfl, h2, fun i o' hi => ?_⟩
      cases i with
      | zero => simp at hi; subst hi; exact ⟨v0, rfl, h1, fun e => hm (by omega), fun e => hg (by omega)⟩
      | succ i =>
        obtain ⟨v, g1, g2, g3, g4⟩ := h3 i o' (by simpa using hi)
        exact ⟨v, by simpa using g1, g2, fun e => g3 (by omega), fun e => g4 (by omega)⟩
    split at h
    · rename_i hk
      have hk' : k = m := by simpa using hk
      split at h
      · rename_i q ws s2 h2
        simp only [Option.some.injEq, Prod.mk.injEq] at h
        obtain ⟨h1, rfl, rfl⟩ := h
        rw [← h1] at hside
        exact cons _ q ws h2 hside (fun _ => rfl) (fun e => absurd hk' e)
      · cases h
    · rename_i hk
      have hk' : k ≠ m := by simpa using hk
      split at h
      · cases h
      · rename_i p hw
        split at h
        · rename_i q ws s2 h2
          simp only [Option.some.injEq, Prod.mk.injEq] at h
          obtain ⟨h1, rfl, rfl⟩ := h
          rw [← h1] at hside
          exact cons _ q ws h2 hside.2 (fun e => absurd e hk') fun _ => ⟨_, p, false, hw, hside.1, .inl ⟨rfl, rfl⟩⟩
        · cases h
      · rename_i p hw
        split at h
        · cases h
        · rename_i r lv h3
          split at h
          · rename_i q ws s2 h2
            simp only [Option.some.injEq, Prod.mk.injEq] at h
            obtain ⟨h1, rfl, rfl⟩ := h
            rw [← h1] at hside
            exact cons _ q ws h2 hside.2.2 (fun e => absurd e hk') fun _ => ⟨_, p, true, hw, hside.1, .inr ⟨rfl, _, r, h3, hside.2.1⟩⟩
          · cases h

def dexecDrawA (P : Program) (base : Nat) (l : List Oper) (n m d : Nat) (t : TypeId) (hs : List Hint) (s : DS) : Option (Prop × List LV × List LV × DS) :=
  match zeroC P t with
  | none => none
  | some cs => match pexecA P l.toArray m (.one (.ref (base + d) 0)) (l.take n) hs 0 (s.drop (base + d)) with
    | none => none
    | some (p, vs, _) => match pexecA P l.toArray m (.one (.ref (base + d) 0)) (l.take n) hs 0 ((s.drop (base + d)).push (base + d) (.var cs)) with
      | none => none
      | some (p', vs', s1) => match dexec P base l.toArray (l.drop n) (hs.drop n) s1 with
        | none => none
        | some (q, s2) => some (p ∧ p' ∧ q, vs, vs', s2)

theorem view_cases {dst : Nat → Option Tmp} {v : Nat → LV} {sl : List LV} {X : Nat → Bool} {t : Tmp} {lv : LV} : ∀ n, view dst v sl X n t = some lv → sl[t]? = some lv ∨ ∃ j, j < n ∧ X j = true ∧ lv = v j
  | 0, h => .inl h
  | n + 1, h => by
    simp only [view] at h
    split at h
    · rename_i hc
      exact .inr ⟨n, by omega, hc.1, (Option.some.inj h).symm⟩
    · rcases view_cases n h with h | ⟨j, h1, h2, h3⟩
      · exact .inl h
      · exact .inr ⟨j, by omega, h2, h3⟩

theorem view_lt {dst : Nat → Option Tmp} {v : Nat → LV} {sl : List LV} {X : Nat → Bool} {t : Tmp} {lv : LV} : ∀ n, view dst v sl X n t = some lv → t < sl.length
  | 0, h => (List.getElem?_eq_some_iff.1 h).1
  | n + 1, h => by
    simp only [view] at h
    split at h
    · rename_i hc; exact hc.2.2
    · exact view_lt n h

theorem st_view {l : List Oper} {n : Nat} {v : Nat → LV} {st : Nat → DS} (h : ∀ i, i < n → ∃ o, l[i]? = some o ∧ st (i + 1) = (st i).put o.dst (v i)) :
    ∀ i, i ≤ n → (st i).sl.length = (st 0).sl.length ∧ (st i).bx = (st 0).bx ∧ ∀ t, (st i).sl[t]? = view (fun i => (l[i]?).bind (·.dst)) v (st 0).sl (fun _ => true) i t := by
  intro i
  induction i with
  | zero => intro _; exact ⟨rfl, rfl, fun t => rfl⟩
  | succ i ih =>
    intro hi
    obtain ⟨h1, h2, h3⟩ := ih (by omega)
    obtain ⟨o, ho, he⟩ := h i (by omega)
    rw [he]
    refine ⟨by rw [put_len]; exact h1, by rw [put_bx]; exact h2, fun t => ?_⟩
    rw [put_get, h1, h3]
    simp [view, ho]

theorem T_drawA {base rid : Nat} {l : List Oper} {Q : DX → DS → Prop} {s : DS} (n m d : Nat) (t0 : TypeId) (hs : List Hint) (s' : DS) (side : Prop) (hm : P.follows .mixedOrders = true) (hok : drawOk l.toArray n = true)
    (hmn : Nat.blt m n = true) (hop : (l[m]?).map (fun o => (o.op, o.dst, o.guard)) = some (.alloc t0, some d, none))
    (h : (dexecDrawA P base l n m d t0 hs s).map (fun r => (r.1, r.2.2.2)) = some (side, s'))
    (hv : (dexecDrawA P base l n m d t0 hs s).map (fun r => (r.2.1, fixVals l.toArray m (base + d) 0 r.2.1)) = (dexecDrawA P base l n m d t0 hs s).map (fun r => (r.2.2.1, r.2.1)))
    (hside : side) (hq : Q .normal s') : T P base (.region rid l.toArray true) Q s := by
  intro E M00 w0 a0 hbase hst00
  obtain ⟨M0, hst0⟩ := DS.le_drop s (base + d) E M00 w0 a0 hst00
  generalize hid : base + d = id at *
  unfold dexecDrawA at h hv
  rw [hid] at h hv
  cases hz : zeroC P t0 with
  | none => rw [hz] at h; cases h
  | some cs =>
  simp only [hz] at h hv
  cases h1 : pexecA P l.toArray m (.one (.ref id 0)) (l.take n) hs 0 (s.drop id) with
  | none => rw [h1] at h; cases h
  | some r1 =>
  obtain ⟨p, vs, s1F⟩ := r1
  simp only [h1] at h hv
  cases h2 : pexecA P l.toArray m (.one (.ref id 0)) (l.take n) hs 0 ((s.drop id).push id (.var cs)) with
  | none => rw [h2] at h; cases h
  | some r2 =>
  obtain ⟨p', vs', s1⟩ := r2
  simp only [h2] at h hv
  cases h3 : dexec P base l.toArray (l.drop n) (hs.drop n) s1 with
  | none => rw [h3] at h; cases h
  | some r3 =>
  obtain ⟨q, s2⟩ := r3
  simp only [h3, Option.map_some, Option.some.injEq, Prod.mk.injEq] at h hv
  obtain ⟨hv1, hv2⟩ := hv
  obtain ⟨hsd, rfl⟩ := h
  rw [← hsd] at hside
  rw [← hv1] at h2
  obtain ⟨hlenv, stF, hF0, hFn, hFs⟩ := pexecA_steps _ _ _ _ _ _ _ h1 hside.1
  obtain ⟨_, stT, hT0, hTn, hTs⟩ := pexecA_steps _ _ _ _ _ _ _ h2 hside.2.1
  have htail := dexec_sound (P := P) (base := base) (Q := Q) _ _ _ _ _ h3 hside.2.2 hq
  simp only [drawOk, Bool.and_eq_true] at hok
  obtain ⟨⟨⟨⟨⟨hsel, hnle⟩, hpairs⟩, hback⟩, hsink⟩, hseq⟩ := hok
  have hnle' : n ≤ l.length := by simpa using Nat.le_of_ble_eq_true hnle
  have htl : (l.take n).length = n := by simp; omega
  rw [htl] at hFn hTn hlenv
  let v : Nat → LV := fun i => vs.getD i (.one .junk)
  have hgetF : ∀ i, i < n → ∃ o, l[i]? = some o ∧ stF (i + 1) = (stF i).put o.dst (v i) ∧ (i = m → v i = .one (.ref id 0)) ∧ (i ≠ m → Good P l.toArray (stF i) o (v i)) := by
    intro i hi
    have hlt : i < l.length := by omega
    obtain ⟨u, g1, g2, g3, g4⟩ := hFs i l[i] (by rw [List.getElem?_take, if_pos hi, List.getElem?_eq_getElem hlt])
    have : v i = u := by simp [v, List.getD, g1]
    rw [Nat.zero_add] at g3 g4
    exact ⟨l[i], List.getElem?_eq_getElem hlt, by rw [this]; exact g2, by rw [this]; exact g3, by rw [this]; exact g4⟩
  have hgetT : ∀ i, i < n → ∃ o, l[i]? = some o ∧ stT (i + 1) = (stT i).put o.dst (v i) ∧ (i = m → v i = .one (.ref id 0)) ∧ (i ≠ m → Good P l.toArray (stT i) o (v i)) := by
    intro i hi
    have hlt : i < l.length := by omega
    obtain ⟨u, g1, g2, g3, g4⟩ := hTs i l[i] (by rw [List.getElem?_take, if_pos hi, List.getElem?_eq_getElem hlt])
    have : v i = u := by simp [v, List.getD, g1]
    rw [Nat.zero_add] at g3 g4
    exact ⟨l[i], List.getElem?_eq_getElem hlt, by rw [this]; exact g2, by rw [this]; exact g3, by rw [this]; exact g4⟩
  let s0 : DS := s.drop id
  let bxA : Bool → List (Nat × Box) := fun b => match b with | true => (id, .var cs) :: s0.bx | false => s0.bx
  let dst : Nat → Option Tmp := fun i => (l[i]?).bind (·.dst)
  have hgood : ∀ b : Bool, ∃ st : Nat → DS, (∀ i, i < n → ∃ o, l[i]? = some o ∧ (i ≠ m → Good P l.toArray (st i) o (v i))) ∧
      ∀ i, i ≤ n → (st i).sl.length = s0.sl.length ∧ (st i).bx = bxA b ∧ ∀ t, (st i).sl[t]? = view dst v s0.sl (fun _ => true) i t := by
    intro b
    cases b with
    | false =>
      have := st_view (l := l) (n := n) (v := v) (st := stF) fun i hi => let ⟨o, a1, a2, _⟩ := hgetF i hi; ⟨o, a1, a2⟩
      rw [hF0] at this
      exact ⟨stF, fun i hi => let ⟨o, a1, _, _, a4⟩ := hgetF i hi; ⟨o, a1, a4⟩, this⟩
    | true =>
      have := st_view (l := l) (n := n) (v := v) (st := stT) fun i hi => let ⟨o, a1, a2, _⟩ := hgetT i hi; ⟨o, a1, a2⟩
      rw [hT0] at this
      exact ⟨stT, fun i hi => let ⟨o, a1, _, _, a4⟩ := hgetT i hi; ⟨o, a1, a4⟩, this⟩
  have hpair : ∀ k j, k < n → j < n → k < j → ∀ x y, l[k]? = some x → l[j]? = some y → Region.waitsFor .any l.toArray j k = true ∨ x.apart l.toArray y = true := by
    intro k j hk hj hkj x y hx hy
    have h1 := List.all_eq_true.1 hpairs k (List.mem_range.2 hk)
    have h2 := List.all_eq_true.1 h1 j (List.mem_range.2 hj)
    simp only [Bool.or_eq_true] at h2
    rcases h2 with (h2 | h2) | h2
    · have := Nat.le_of_ble_eq_true h2; omega
    · exact .inl h2
    · simp only [List.getElem?_toArray, hx, hy] at h2
      exact .inr h2
  obtain ⟨om, hom, hopm⟩ := Option.map_eq_some_iff.1 hop
  simp only [Prod.mk.injEq] at hopm
  obtain ⟨hom1, hom2, hom3⟩ := hopm
  refine wp_region_any hm ?_
  have head : ∀ (f : Nat) (listed : Array Bool) (a : Act) (w : World) (M : BMap), todo n listed = f → HeadInv .any l.toArray n listed → (listed.getD m false = false → m < n) → a.defers = E.defs → a.tmps.size = s0.sl.length →
      (∀ t lv, view dst v s0.sl (fun j => listed.getD j false) n t = some lv → LV.rel w (Av E.A0 M (bxA (listed.getD m false))) M lv (a.tmps.getD t undef)) → Boxes E M w (bxA (listed.getD m false)) →
      wpAny P .any l.toArray (Lift E Q) (f + (l.length - n)) listed a w := by
    intro f
    induction f with
    | zero =>
      intro listed a w M htodo inv hmn hdef hsz hslots hbx
      have hall := todo_zero htodo
      have hlm : listed.getD m false = true := by
        cases hb : listed.getD m false with
        | true => rfl
        | false => rw [hall m (hmn hb)] at hb; cases hb
      rw [hlm] at hslots hbx
      have hlist : listed = headListed n l.toArray.size := listed_eq inv.size (by simpa using hnle') hall (fun i h1 h2 => inv.tail i h1 h2)
      rw [Nat.zero_add]
      have hstn' : St E M w a s1 := by
        rw [← hTn]
        have := st_view (l := l) (n := n) (v := v) (st := stT) fun i hi => let ⟨o, a1, a2, _⟩ := hgetT i hi; ⟨o, a1, a2⟩
        rw [hT0] at this
        obtain ⟨g1, g2, g3⟩ := this n (Nat.le_refl _)
        refine ⟨hdef, by rw [hsz, g1]; rfl, fun t lv hlv => ?_, by rw [g2]; exact hbx⟩
        rw [g2]
        rw [g3] at hlv
        refine hslots t lv ?_
        have key : ∀ k, k ≤ n → view dst v s0.sl (fun j => listed.getD j false) k t = view dst v s0.sl (fun _ => true) k t := by
          intro k
          induction k with
          | zero => intro _; rfl
          | succ k ih => intro hk; simp only [view]; rw [ih (by omega)]; simp only [hall k (by omega)]
        rw [key n (Nat.le_refl _)]
        exact hlv
      have hdl : (l.drop n).length = l.length - n := by simp
      have := wpAny_of_seq (md := .any) (ops := l.toArray) (P := P) (Q' := Lift E Q) (l.drop n) n listed a w (fun j => by simp [List.getElem?_drop]) (by rw [hdl, hlist]; simpa using hseq) (htail E M w a hbase hstn')
      rwa [hdl] at this
    | succ f ih =>
      intro listed a w M htodo inv hmn hdef hsz hslots hbx
      rw [show f + 1 + (l.length - n) = (f + (l.length - n)) + 1 by omega]
      obtain ⟨i0, hi0, hl0, hbef⟩ := exists_todo htodo
      have hready0 : i0 ∈ Region.ready .any l.toArray listed := by
        obtain ⟨o, ho, _, _⟩ := hgetF i0 hi0
        refine mem_ready.2 ⟨getD_in (by rw [inv.size]; simp; omega) hl0, o, by simpa using ho, fun e he hbnd => ?_⟩
        have hb := List.all_eq_true.1 hback i0 (List.mem_range.2 hi0)
        simp only [List.getElem?_toArray, ho] at hb
        have := Array.all_eq_true_iff_forall_mem.1 hb e he
        simp only [hbnd, Bool.not_true, Bool.false_or] at this
        exact hbef e.on (by simpa [Nat.blt_eq] using this)
      refine ⟨fun h0 => (by rw [h0] at hready0; cases hready0), fun i hi => ?_⟩
      obtain ⟨hun, o, hoi, hall⟩ := mem_ready.1 hi
      have hisz : i < l.length := by
        have := (Array.getElem?_eq_some_iff.1 hoi).1
        simpa using this
      have hin : i < n := by
        rcases Nat.lt_or_ge i n with h | h
        · exact h
        · rcases Bool.or_eq_true _ _ ▸ hsink with hsink | hsink
          · have : n = l.length := by simpa using hsink
            omega
          · simp only [Bool.and_eq_true] at hsink
            exact absurd hi (tail_waits hsink.1 hsink.2 (by simp; omega) inv _ i0 rfl hi0 (getD_in (by rw [inv.size]; simp; omega) hl0) i h)
      have hXi : listed.getD i false = false := getD_both hun
      have hoi' : l[i]? = some o := by simpa using hoi
      have hls : i < listed.size := by rw [inv.size]; simp; omega
      have hwait : ∀ j k, Region.waitsFor .any l.toArray j k = true → listed.getD j false = true → listed.getD k false = true := by
        intro j k hw hl
        obtain ⟨oj, hoj, e, he, hb, hon⟩ := Region.waitsFor_spec hw
        rw [← hon]
        exact inv.closed j oj hoj hl e he hb
      have hdstj : ∀ j t, dst j = some t → ∃ oj, l[j]? = some oj ∧ oj.dst = some t := by
        intro j t hj
        simp only [dst] at hj
        cases hlj : l[j]? with
        | none => simp [hlj] at hj
        | some oj => exact ⟨oj, rfl, by simpa [hlj] using hj⟩
      have hX' : (fun j => (listed.setIfInBounds i true).getD j false) = fun j => listed.getD j false || j == i := by
        funext j
        by_cases hj : i = j
        · subst hj; simp [hls]
        · rw [getD_set_ne false hj]
          have : (j == i) = false := by simpa using fun e => hj e.symm
          simp [this]
      have hview : ∀ t, view dst v s0.sl (fun j => (listed.setIfInBounds i true).getD j false) n t = if i < n ∧ dst i = some t ∧ t < s0.sl.length then some (v i) else view dst v s0.sl (fun j => listed.getD j false) n t := by
        intro t
        rw [hX']
        exact view_after (i := i) hXi n (fun j t hij hjn hdi hdj => by
          obtain ⟨oj, hoj, hdo⟩ := hdstj j t hdj
          rcases hpair i j hin hjn hij o oj hoi' hoj with h1 | h1
          · cases hlj : listed.getD j false with
            | false => rfl
            | true => rw [hwait j i h1 hlj] at hXi; cases hXi
          · have hdi' : o.dst = some t := by simpa [dst, hoi'] using hdi
            exact absurd hdo ((Oper.apart_spec h1).2.1 t hdi')) t
      have hdi : dst i = o.dst := by simp [dst, hoi']
      by_cases him : i = m
      · subst him
        have : om = o := Option.some.inj (hom.symm.trans hoi')
        subst this
        rw [hXi] at hslots hbx
        have hvm : v i = .one (.ref id 0) := by
          obtain ⟨_, _, _, g, _⟩ := hgetF i hin
          exact g rfl
        let ds : DS := ⟨(List.range a.tmps.size).map fun t => (view dst v s0.sl (fun j => listed.getD j false) n t).getD (.one .junk), s0.bx⟩
        have hds : St E M w a ds := by
          refine ⟨hdef, by simp [ds], fun t lv hlv => ?_, hbx⟩
          simp only [ds, List.getElem?_map, Option.map_eq_some_iff] at hlv
          obtain ⟨t', ht', rfl⟩ := hlv
          have := (List.getElem?_eq_some_iff.1 ht')
          obtain ⟨hlt, he⟩ := this
          simp at he
          subst he
          cases hvw : view dst v s0.sl (fun j => listed.getD j false) n t with
          | none => trivial
          | some lv => exact hslots t lv hvw
        have he : estep P base om ds none = some (True, ((ds.drop id).push id (.var cs)).put (some d) (.one (.ref id 0))) := by
          simp only [estep, hom1, hom2, hz, hid]
        have hes := estep_sound (P := P) he trivial hds hbase
        unfold wpOp
        simp only [hoi]
        rw [show Region.wanted om (yielded l.toArray a.tmps) = true by simp [Region.wanted, hom3]]
        simp only [if_true]
        refine .inl (hes _ _ fun val w' M'' hst'' => ?_)
        have hlist' : (listed.setIfInBounds i true).getD i false = true := by simp [hls]
        have hbxe : ((ds.drop id).push id (.var cs)).bx = bxA true := by
          show (id, Box.var cs) :: (ds.drop id).bx = (id, Box.var cs) :: s0.bx
          rw [show (ds.drop id).bx = s0.bx from DS.drop_bx_drop id s _]
        refine ih _ _ w' M'' (by have := todo_set hin hls hXi; omega) (inv.set hi hin) (fun hh => hin) hst''.defers (by simp [hom2, Act.put, hsz]) (fun t lv hlv => ?_) (by rw [hlist']; have := hst''.boxes; rwa [put_bx, hbxe] at this)
        rw [hlist']
        have hbx2 : (((ds.drop id).push id (.var cs)).put (some d) (.one (.ref id 0))).bx = bxA true := by rw [put_bx, hbxe]
        have hsl2 := hst''.slots
        rw [hbx2] at hsl2
        refine hsl2 t lv ?_
        rw [hview t] at hlv
        rw [put_get]
        rw [hdi, hom2] at hlv
        have hlen2 : ((ds.drop id).push id (.var cs)).sl.length = s0.sl.length := by simp [DS.drop, DS.push, ds, hsz]
        rw [hlen2]
        split at hlv
        · rename_i hc
          rw [if_pos ⟨hc.2.1, hc.2.2⟩, ← hlv, hvm]
        · rename_i hc
          have hlt := view_lt n hlv
          rw [if_neg (fun e => hc ⟨hin, e.1, e.2⟩)]
          simp only [DS.drop, DS.push, ds, List.map_map, List.getElem?_map]
          rw [List.getElem?_range (by rw [hsz]; exact hlt)]
          simp only [Option.map_some, Function.comp_apply, hlv, Option.getD_some, Option.some.injEq]
          rcases view_cases n hlv with hb | ⟨j, hjn, hXj, rfl⟩
          · simp only [s0, DS.drop, List.getElem?_map, Option.map_eq_some_iff] at hb
            obtain ⟨l0, _, rfl⟩ := hb
            exact LV.scrub_scrub id l0
          · have hjv : vs[j]? = some (v j) := by
              have : j < vs.length := by omega
              simp [v, List.getD, List.getElem?_eq_getElem this]
            rcases fixVals_get hv2 j _ hjv with hc2 | hc2
            · rw [Nat.zero_add] at hc2
              rcases hc2 with hc2 | hc2
              · subst hc2; rw [hXj] at hXi; cases hXi
              · rw [hwait j i hc2 hXj] at hXi; cases hXi
            · exact hc2
      · obtain ⟨st, hgd, hstsl⟩ := hgood (listed.getD m false)
        obtain ⟨o', ho', hgood'⟩ := hgd i hin
        have : o' = o := Option.some.inj (ho'.symm.trans hoi')
        subst this
        have hgood := hgood' him
        have hlook : ∀ t ∈ o'.looksAt l.toArray, ∀ lv, (st i).sl[t]? = some lv → LV.rel w (Av E.A0 M (bxA (listed.getD m false))) M lv (a.tmps.getD t undef) := by
          intro t ht lv hlv
          rw [(hstsl i (by omega)).2.2] at hlv
          refine hslots t lv ?_
          rw [view_same (i := i) hXi n (fun j hj hdj => ?_) (fun j hij hjn hdj => ?_), Nat.min_eq_right (by omega)]
          · exact hlv
          · obtain ⟨oj, hoj, hdo⟩ := hdstj j t hdj
            rcases hpair j i (by omega) hin hj oj o' hoj hoi' with h1 | h1
            · obtain ⟨oo, hoo, e, he, hb, hon⟩ := Region.waitsFor_spec h1
              have : oo = o' := Option.some.inj (hoo.symm.trans hoi)
              subst this
              rw [← hon]
              exact hall e he hb
            · exact absurd ht ((Oper.apart_spec h1).1 t hdo)
          · obtain ⟨oj, hoj, hdo⟩ := hdstj j t hdj
            rcases hpair i j hin hjn hij o' oj hoi' hoj with h1 | h1
            · cases hlj : listed.getD j false with
              | false => rfl
              | true => rw [hwait j i h1 hlj] at hXi; cases hXi
            · exact absurd ht ((Oper.apart_spec h1).2.2 t hdo)
        have hszi : a.tmps.size = (st i).sl.length := by rw [hsz, (hstsl i (by omega)).1]
        have hbxi : (st i).bx = bxA (listed.getD m false) := (hstsl i (by omega)).2.1
        have hlm : (listed.setIfInBounds i true).getD m false = listed.getD m false := getD_set_ne false him
        have next : ∀ (val : Value) (w' : World), Below w.heap.size w w' → LV.rel w' (Av E.A0 M (bxA (listed.getD m false))) M (v i) val → wpAny P .any l.toArray (Lift E Q) (f + (l.length - n)) (listed.setIfInBounds i true) (a.put o'.dst val) w' := by
          intro val w' hbel hval
          refine ih _ _ w' M (by have := todo_set hin hls hXi; omega) (inv.set hi hin) (by rw [hlm]; exact hmn) (by cases hdd : o'.dst <;> simp [Act.put, hdd, hdef]) (by cases hdd : o'.dst <;> simp [Act.put, hdd, hsz]) (fun t lv hlv => ?_) (by rw [hlm]; exact hbx.below hbel)
          rw [hlm]
          rw [hview t, hdi] at hlv
          split at hlv
          · rename_i hc
            cases hlv
            have hlt : t < a.tmps.size := by rw [hsz]; exact hc.2.2
            rw [hc.2.1]
            simpa [Act.put, hlt] using hval
          · rename_i hc
            have hold := (hslots t lv hlv).mono (Keeps.below hbel)
            have hlt := view_lt n hlv
            have hne : o'.dst ≠ some t := fun e => hc ⟨hin, e, hlt⟩
            cases hdd : o'.dst with
            | none => simpa [Act.put, hdd] using hold
            | some d =>
              have : d ≠ t := fun e => hne (by rw [hdd, e])
              simpa [Act.put, hdd, this] using hold
        unfold wpOp
        simp only [hoi]
        obtain ⟨g, pp, b, hwb, hpp, hcase⟩ := hgood
        rw [wantB_sound' (w := w) (A := Av E.A0 M (bxA (listed.getD m false))) (M := M) hwb hpp hszi hlook]
        rcases hcase with ⟨rfl, hv⟩ | ⟨rfl, hh, sd, hpv, hsd⟩
        · simp only [Bool.false_eq_true, if_false]
          exact next undef w (Below.refl _ _) (by rw [hv]; exact ud_rel)
        · simp only [if_true]
          rw [hbxi] at hpv
          refine .inl (pval_sound (P := P) (E := E) hpv hsd hbx (fun x hx => ?_) _ _ next)
          cases x with
          | tmp t =>
            simp only [DS.ev, Act.eval]
            cases ht : (st i).sl[t]? with
            | none => simp [List.getD, ht]; trivial
            | some lv =>
              simp only [List.getD, ht, Option.getD_some]
              refine hlook t ?_ lv ht
              exact List.mem_append_left _ (List.mem_filterMap.2 ⟨.tmp t, by simpa using hx, rfl⟩)
          | const c => exact ofConst_rel c
          | global g => exact RelD.con _ rfl
          | func f => exact ⟨#[], rfl, rfl, fun j c hj => by simp at hj⟩
  have hmn : m < n := by
    simpa [Nat.blt_eq] using hmn
  have hdrew : Below w0.heap.size w0 w0.drew := (Below.refl _ _).drew
  have hst1 := hst0.below hdrew
  have hrep : todo n (Array.replicate l.toArray.size false) = n := by
    unfold todo
    have : ((List.range n).filter fun i => !(Array.replicate l.toArray.size false).getD i false) = List.range n := by
      rw [List.filter_eq_self]
      intro k _
      rw [getD_replicate_false]; rfl
    rw [this]; simp
  have := head n (Array.replicate l.toArray.size false) a0 w0.drew M0 hrep
    ⟨by simp, fun j oj _ hl => (by rw [getD_replicate_false] at hl; cases hl), fun t _ ht => getD_in (by simpa using ht) (getD_replicate_false _ _)⟩ (fun _ => hmn) hst1.defers hst1.size (fun t lv hlv => by
      rw [getD_replicate_false]
      refine hst1.slots t lv ?_
      have : ∀ k, view dst v s0.sl (fun j => (Array.replicate l.toArray.size false).getD j false) k t = s0.sl[t]? := by
        intro k
        induction k with
        | zero => rfl
        | succ k ih => simp only [view]; rw [ih]; simp only [getD_replicate_false]; simp
      rw [← this n]; exact hlv) (by rw [getD_replicate_false]; exact hst1.boxes)
  rw [show n + (l.length - n) = l.toArray.size by simp; omega] at this
  exact this

def wayDA (P : Program) (base : Nat) (l : List Oper) (n m d : Nat) (t : TypeId) (hs : List Hint) (live dead : List Nat) (s : DS) : Option (Prop × DS) :=
  (dexecDrawA P base l n m d t hs s).map fun r => (r.1, r.2.2.2.prune live dead)

theorem T_regDA {base rid : Nat} {l : List Oper} {Q : DX → DS → Prop} {s : DS} (n m d : Nat) (t0 : TypeId) (hs : List Hint) (live dead : List Nat) (s' : DS) (side : Prop) (hm : P.follows .mixedOrders = true) (hok : drawOk l.toArray n = true)
    (hmn : Nat.blt m n = true) (hop : (l[m]?).map (fun o => (o.op, o.dst, o.guard)) = some (.alloc t0, some d, none))
    (h : wayDA P base l n m d t0 hs live dead s = some (side, s'))
    (hv : (dexecDrawA P base l n m d t0 hs s).map (fun r => (r.2.1, fixVals l.toArray m (base + d) 0 r.2.1)) = (dexecDrawA P base l n m d t0 hs s).map (fun r => (r.2.2.1, r.2.1)))
    (hside : side) {y : Code} (hq : T P base y Q s') : T P base (.seq (.region rid l.toArray true) y) Q s := by
  unfold wayDA at h
  simp only [Option.map_eq_some_iff, Prod.mk.injEq] at h
  obtain ⟨⟨sd, v1, v2, s1⟩, h1, rfl, rfl⟩ := h
  exact T_seq (T_drawA n m d t0 hs s1 sd hm hok hmn hop (by rw [h1]; rfl) hv hside (T_le (DS.le_prune s1 live dead) hq))
end
end Go.DL

/-
  The plain data of chapter 39, and how it is laid as data of the framework; the plain functions that the code computes.
-/
set_option linter.unusedVariables false
set_option linter.unusedSimpArgs false
namespace Go.Proofs.Ythpjlkpkhlkhbaa
open Go.DL
structure Pay where
  c : Int
  a : Int
  deriving DecidableEq
structure Hold where
  t : Int
  p : Int
  ps : List Pay
  s : Int
  deriving DecidableEq
structure House where
  b : List Pay
  h : List Hold
  deriving DecidableEq
def encI (n : Int) : D := .int .i64 n
def encPay (p : Pay) : D := .agg [.int .i64 p.c, .int .i64 p.a]
def encHold (x : Hold) : D := .agg [.int .i64 x.t, .int .i64 x.p, .sl 2 (x.ps.map encPay), .int .i64 x.s]
theorem encI_one (l : List Int) : cellsOne (l.map encI) := by
  intro d hd c hc; obtain ⟨x, _, rfl⟩ := List.mem_map.1 hd; simp [encI, D.cells] at hc; subst hc; rfl
theorem encPay_one (l : List Pay) : cellsOne (l.map encPay) := by
  intro d hd c hc; obtain ⟨x, _, rfl⟩ := List.mem_map.1 hd; simp [encPay, D.cells] at hc; rcases hc with rfl | rfl <;> rfl
theorem encHold_one (l : List Hold) : cellsOne (l.map encHold) := by
  intro d hd c hc; obtain ⟨x, _, rfl⟩ := List.mem_map.1 hd; simp [encHold, D.cells] at hc; rcases hc with rfl | rfl | rfl | rfl <;> rfl

theorem drop_cons {α : Type} {l : List α} {k : Nat} {p : α} (h : l[k]? = some p) : l.drop k = p :: l.drop (k + 1) := by
  obtain ⟨hlt, rfl⟩ := List.getElem?_eq_some_iff.1 h
  exact List.drop_eq_getElem_cons hlt
theorem take_snoc {α : Type} {l : List α} {k : Nat} {p : α} (h : l[k]? = some p) : l.take (k + 1) = l.take k ++ [p] := by
  rw [List.take_add_one, h]; rfl

/-- The sum of payments, as the code forms it: with the machine's own wrap. -/
def sumFrom (n : Int) : List Pay → Int
  | [] => n
  | p :: l => sumFrom (IntKind.i64.wrap (n + p.a)) l

theorem sumFrom_drop {l : List Pay} {k : Nat} {p : Pay} (n : Int) (h : l[k]? = some p) : sumFrom n (l.drop k) = sumFrom (IntKind.i64.wrap (n + p.a)) (l.drop (k + 1)) := by
  rw [drop_cons h]; rfl

/-- The sum of the holds that are held, on top of n. -/
def heldFrom (n : Int) : List Hold → Int
  | [] => n
  | x :: l => heldFrom (if x.s = 1 then IntKind.i64.wrap (n + sumFrom 0 x.ps) else n) l
def total (h : House) : Int := heldFrom (sumFrom 0 h.b) h.h

/-- A club's balance: the first that bears its number. -/
def bal (c : Int) : List Pay → Int × Bool
  | [] => (0, false)
  | p :: l => if p.c = c then (p.a, true) else bal c l

/-- Clubs behind p, increasing. -/
def incFrom (p : Int) : List Int → Bool
  | [] => true
  | c :: l => if c < 0 ∨ c ≥ 192 ∨ c ≤ p then false else incFrom c l
def areClubs (l : List Int) : Bool := incFrom (-1) l && decide (0 < l.length)

def fewHolds : List Hold → Bool
  | [] => true
  | x :: l => if x.ps.length > 70 then false else fewHolds l
def fewHouse (h : House) : Bool := if h.b.length > 30 ∨ h.h.length > 30 then false else fewHolds h.h

/-- cmp.Compare. -/
def cmpI (x y : Int) : Int := if x < y then -1 else if x > y then 1 else 0

theorem take_eq_succ {α : Type} {a b : List α} {k : Nat} {x y : α} (h : a.take k = b.take k) (hx : a[k]? = some x) (hy : b[k]? = some y) (e : x = y) : a.take (k + 1) = b.take (k + 1) := by
  rw [take_snoc hx, take_snoc hy, h, e]
theorem eq_of_take {α : Type} {a b : List α} {k : Nat} (h : a.take k = b.take k) (h1 : a.length ≤ k) (h2 : b.length ≤ k) : a = b := by
  rwa [List.take_of_length_le h1, List.take_of_length_le h2] at h
theorem pay_eq {x y : Pay} (h : (x.c == y.c && (x.a == y.a && true)) = true) : x = y := by
  simp at h; cases x; cases y; simp_all
theorem pay_ne {x y : Pay} (h : (x.c == y.c && (x.a == y.a && true)) = false) : x ≠ y := by
  rintro rfl; simp at h
theorem dec_ne {α : Type} [DecidableEq α] {a b : List α} {k : Nat} {x y : α} (hx : a[k]? = some x) (hy : b[k]? = some y) (h : x ≠ y) : false = decide (a = b) := by
  symm; rw [decide_eq_false_iff_not]; rintro rfl; rw [hx] at hy; exact h (Option.some.inj hy)
/-- The binary search of the library: the place between i and j. -/
def bs (ks : List Int) (key : Int) (i j : Nat) : Nat :=
  if i < j then if ks.getD ((i + j) / 2) 0 < key then bs ks key ((i + j) / 2 + 1) j else bs ks key i ((i + j) / 2) else i
termination_by j - i
decreasing_by all_goals omega
def bsAt (ks : List Int) (key : Int) : Nat := bs ks key 0 ks.length
def bsMet (ks : List Int) (key : Int) : Bool := decide (ks[bsAt ks key]? = some key)

theorem cmpI_lt {x y : Int} : (cmpI x y < 0) ↔ x < y := by
  unfold cmpI; split <;> (try split) <;> omega
theorem cmpI_eq {x y : Int} : (cmpI x y = 0) ↔ x = y := by
  unfold cmpI; split <;> (try split) <;> omega
theorem bs_le (ks : List Int) (key : Int) (i j : Nat) (h : i ≤ j) : bs ks key i j ≤ j := by
  induction i, j using bs.induct ks key with
  | case1 i j h1 h2 ih => rw [bs, if_pos h1, if_pos h2]; exact ih (by omega)
  | case2 i j h1 h2 ih => rw [bs, if_pos h1, if_neg h2]; have := ih (by omega); omega
  | case3 i j h1 => rw [bs, if_neg h1]; exact h
theorem bs_lt {ks : List Int} {key : Int} {i j : Nat} {v : Int} (h : i < j) (hx : ks[(i + j) / 2]? = some v) (hv : v < key) : bs ks key ((i + j) / 2 + 1) j = bs ks key i j := by
  rw [bs.eq_def ks key i j, if_pos h, if_pos (by rw [List.getD, hx]; exact hv)]
theorem bs_ge {ks : List Int} {key : Int} {i j : Nat} {v : Int} (h : i < j) (hx : ks[(i + j) / 2]? = some v) (hv : ¬ v < key) : bs ks key i ((i + j) / 2) = bs ks key i j := by
  rw [bs.eq_def ks key i j, if_pos h, if_neg (by rw [List.getD, hx]; exact hv)]
theorem bs_end {ks : List Int} {key : Int} {i j : Nat} (h : ¬ i < j) : bs ks key i j = i := by rw [bs, if_neg h]
theorem met_at {α : Type} {f : α → Int} {l : List α} {key : Int} {i : Nat} {x : α} (he : bsAt (l.map f) key = i) (hx : l[i]? = some x) : (cmpI (f x) key == 0) = bsMet (l.map f) key := by
  rw [bsMet, he, List.getElem?_map, hx]
  simp only [Option.map_some, Option.some.injEq]
  rw [Bool.eq_iff_iff, beq_iff_eq, decide_eq_true_iff, cmpI_eq]

/-! ### validity -/
def MAXA : Int := 1125899906842624
def prevOf (k : Nat) (c : Int) : Option Int := if k = 0 then none else some c
/-- Is the number not behind the one before? -/
def notBehind (c : Int) : Option Int → Bool
  | none => false
  | some q => decide (c ≤ q)
def payLoop (has : Int → Bool) (p : Option Int) (n : Int) : List Pay → Bool
  | [] => decide (n ≤ 1125899906842624)
  | x :: l => if has x.c = false ∨ x.a < 1 ∨ x.a > 1125899906842624 ∨ notBehind x.c p = true then false else payLoop has (some x.c) (IntKind.i64.wrap (n + x.a)) l
def paysOK (has : Int → Bool) (l : List Pay) : Bool := if l.length > 64 then false else payLoop has none 0 l
theorem payLoop_step {has : Int → Bool} {k : Nat} {e x : Pay} {n : Int} {l : List Pay} (hx : l[k]? = some x) (h1 : has x.c = true) (h2 : ¬ x.a < 1) (h3 : ¬ x.a > 1125899906842624) (h4 : k = 0 ∨ e.c < x.c) :
    payLoop has (prevOf (k + 1) x.c) (IntKind.i64.wrap (n + x.a)) (l.drop (k + 1)) = payLoop has (prevOf k e.c) n (l.drop k) := by
  rw [drop_cons hx, payLoop, if_neg]
  · rfl
  · rintro (h | h | h | h)
    · rw [h1] at h; cases h
    · exact h2 h
    · exact h3 h
    · unfold prevOf at h
      split at h
      · cases h
      · simp only [notBehind, decide_eq_true_eq] at h; omega
theorem payLoop_stop {has : Int → Bool} {k : Nat} {e x : Pay} {n : Int} {l : List Pay} (hx : l[k]? = some x) (h : has x.c = false ∨ x.a < 1 ∨ x.a > 1125899906842624 ∨ (0 < k ∧ x.c ≤ e.c)) :
    false = payLoop has (prevOf k e.c) n (l.drop k) := by
  rw [drop_cons hx, payLoop, if_pos]
  rcases h with h | h | h | ⟨h, h'⟩
  · exact .inl h
  · exact .inr (.inl h)
  · exact .inr (.inr (.inl h))
  · refine .inr (.inr (.inr ?_))
    rw [prevOf, if_neg (by omega)]
    simpa [notBehind] using h'
theorem payLoop_end {has : Int → Bool} {p : Option Int} {k : Nat} {n : Int} {l : List Pay} (h : l.length ≤ k) : decide (n ≤ 1125899906842624) = payLoop has p n (l.drop k) := by
  rw [List.drop_eq_nil_of_le h]; rfl

def hasB (h : House) (c : Int) : Bool := bsMet (h.b.map (·.c)) c
def hasR (h : House) (c : Int) : Bool := (bal c h.b).2
def holdOK (has : Int → Bool) (p : Option Int) (x : Hold) : Bool :=
  decide (x.t ≥ 1) && (decide (x.t ≤ 4096) && (!notBehind x.t p && (has x.p && (paysOK has x.ps && (decide (x.s ≥ 1) && decide (x.s ≤ 3))))))
def holdsFrom (has : Int → Bool) (p : Option Int) : List Hold → Bool
  | [] => true
  | x :: l => holdOK has p x && holdsFrom has (some x.t) l
def amountsOK : List Pay → Bool
  | [] => true
  | x :: l => if x.a < 0 ∨ x.a > 1125899906842624 then false else amountsOK l
def checkWith (has : House → Int → Bool) (h : House) : Bool :=
  decide (h.b.length ≤ 192) && (decide (h.h.length ≤ 4096) && (amountsOK h.b && (areClubs (h.b.map (·.c)) && (holdsFrom (has h) none h.h && decide (total h ≤ 1125899906842624)))))
def check (h : House) : Int := if checkWith hasB h = true then 0 else 1
def checkR (h : House) : Int := if checkWith hasR h = true then 0 else 1

theorem holdsFrom_step {has : Int → Bool} {k : Nat} {e x : Hold} {l : List Hold} (hx : l[k]? = some x) (h : holdOK has (prevOf k e.t) x = true) :
    holdsFrom has (prevOf (k + 1) x.t) (l.drop (k + 1)) = holdsFrom has (prevOf k e.t) (l.drop k) := by
  rw [drop_cons hx, holdsFrom, h]; rfl
theorem holdsFrom_stop {has : Int → Bool} {k : Nat} {e x : Hold} {l : List Hold} (hx : l[k]? = some x) (h : holdOK has (prevOf k e.t) x = false) : holdsFrom has (prevOf k e.t) (l.drop k) = false := by
  rw [drop_cons hx, holdsFrom, h]; rfl
section
variable {has : House → Int → Bool} {h : House}
theorem cw_len (e : h.b.length > 192 ∨ h.h.length > 4096) : checkWith has h = false := by
  unfold checkWith
  rcases e with e | e
  · rw [decide_eq_false (by omega)]; rfl
  · rw [decide_eq_false (p := h.h.length ≤ 4096) (by omega)]; simp
theorem cw_amount (e : amountsOK h.b = false) : checkWith has h = false := by simp [checkWith, e]
theorem cw_clubs (e : areClubs (h.b.map (·.c)) = false) : checkWith has h = false := by simp [checkWith, e]
theorem cw_holds (e : holdsFrom (has h) none h.h = false) : checkWith has h = false := by simp [checkWith, e]
theorem cw_total (e : total h > 1125899906842624) : checkWith has h = false := by simp [checkWith, show ¬ total h ≤ 1125899906842624 by omega]
theorem cw_ok (h1 : h.b.length ≤ 192) (h2 : h.h.length ≤ 4096) (h3 : amountsOK h.b = true) (h4 : areClubs (h.b.map (·.c)) = true) (h5 : holdsFrom (has h) none h.h = true) (h6 : total h ≤ 1125899906842624) : checkWith has h = true := by
  simp [checkWith, h1, h2, h3, h4, h5, h6]
theorem chk_no (e : checkWith hasB h = false) : 1 = check h := by simp [check, e]
theorem chk_yes (e : checkWith hasB h = true) : 0 = check h := by simp [check, e]
theorem chkR_no (e : checkWith hasR h = false) : 1 = checkR h := by simp [checkR, e]
theorem chkR_yes (e : checkWith hasR h = true) : 0 = checkR h := by simp [checkR, e]
theorem all_taken {l : List Pay} {k : Nat} {cl : List Int} (h : cl = (l.take k).map (·.c)) (hk : l.length ≤ k) : cl = l.map (·.c) := by rw [h, List.take_of_length_le hk]
theorem taken_step {l : List Pay} {k : Nat} {cl : List Int} {x : Pay} (h : cl = (l.take k).map (·.c)) (hx : l[k]? = some x) : cl ++ [x.c] = (l.take (k + 1)).map (·.c) := by rw [h, take_snoc hx]; simp
end

/-! ### houses -/
theorem hold_eq {x y : Hold} (h1 : x.t = y.t) (h2 : x.p = y.p) (h3 : x.s = y.s) (h4 : decide (x.ps = y.ps) = true) : x = y := by
  cases x; cases y; simp_all
theorem house_eq {a b : House} {k : Nat} (h1 : decide (a.b = b.b) = true) (h2 : a.h.take k = b.h.take k) (h3 : a.h.length ≤ k) (h4 : b.h.length ≤ k) : true = decide (a = b) := by
  symm; rw [decide_eq_true_iff]
  have := eq_of_take h2 h3 h4
  cases a; cases b; simp_all
def newB (l : List Int) : List Pay := if areClubs l = true then l.map (fun c => ⟨c, 0⟩) else []
def newE (l : List Int) : Int := if areClubs l = true then 0 else 190

structure Step where
  k : Int
  c : Int
  a : Int
  t : Int
  ps : List Pay
  pd : Bool
  deriving DecidableEq
def encStep (x : Step) : D := .agg [.int .i64 x.k, .int .i64 x.c, .int .i64 x.a, .int .i64 x.t, .sl 2 (x.ps.map encPay), .bool x.pd]
theorem encStep_one (l : List Step) : cellsOne (l.map encStep) := by
  intro d hd c hc; obtain ⟨x, _, rfl⟩ := List.mem_map.1 hd; simp [encStep, D.cells] at hc; rcases hc with rfl | rfl | rfl | rfl | rfl | rfl <;> rfl
def fewSteps : List Step → Bool
  | [] => true
  | x :: l => if x.ps.length > 70 then false else fewSteps l
def few (cl : List Int) (l : List Step) : Bool := if cl.length > 12 ∨ l.length > 14 then false else fewSteps l

/-- What all payments to its club add to a balance. -/
def addAll (x : Pay) : List Pay → Pay
  | [] => x
  | p :: ps => addAll (if p.c = x.c then ⟨x.c, IntKind.i64.wrap (x.a + p.a)⟩ else x) ps
def mid (f : Pay → Pay) (b : List Pay) (i : Nat) (y : Pay) : List Pay := (b.take i).map f ++ y :: b.drop (i + 1)
theorem mid_get {f : Pay → Pay} {b : List Pay} {i : Nat} {y : Pay} (h : i < b.length) : (mid f b i y)[i]? = some y := by
  unfold mid
  rw [List.getElem?_append_right (by simp; omega)]
  simp [Nat.min_eq_left (Nat.le_of_lt h)]
theorem mid_set {f : Pay → Pay} {b : List Pay} {i : Nat} {y z : Pay} (h : i < b.length) : (mid f b i y).set i z = mid f b i z := by
  unfold mid
  rw [List.set_append_right _ _ (by simp; omega)]
  simp [Nat.min_eq_left (Nat.le_of_lt h)]
theorem mid_len {f : Pay → Pay} {b : List Pay} {i : Nat} {y : Pay} (h : i < b.length) : (mid f b i y).length = b.length := by
  unfold mid; simp; omega
theorem mid_start {f : Pay → Pay} {b : List Pay} {i : Nat} {x : Pay} (h : b[i]? = some x) : (b.take i).map f ++ b.drop i = mid f b i x := by
  unfold mid; rw [drop_cons h]
theorem mid_end {f : Pay → Pay} {b : List Pay} {i : Nat} {x y : Pay} (h : b[i]? = some x) (hy : y = f x) : mid f b i y = (b.take (i + 1)).map f ++ b.drop (i + 1) := by
  unfold mid; rw [take_snoc h, hy]; simp

/-- What one payment makes of balances, by the search. -/
def give (m : List Pay) (p : Pay) : List Pay :=
  match m[bsAt (m.map (·.c)) p.c]? with
  | some e => if bsMet (m.map (·.c)) p.c = true then m.set (bsAt (m.map (·.c)) p.c) ⟨e.c, IntKind.i64.wrap (e.a + p.a)⟩ else m
  | none => m
def cred (m : List Pay) : List Pay → List Pay
  | [] => m
  | p :: ps => cred (give m p) ps
theorem give_met {m : List Pay} {p e : Pay} (he : m[bsAt (m.map (·.c)) p.c]? = some e) (h : bsMet (m.map (·.c)) p.c = true) : give m p = m.set (bsAt (m.map (·.c)) p.c) ⟨e.c, IntKind.i64.wrap (e.a + p.a)⟩ := by
  unfold give; rw [he]; simp [h]
theorem give_not {m : List Pay} {p : Pay} (h : bsMet (m.map (·.c)) p.c = false) : give m p = m := by
  unfold give; rw [h]; split <;> simp
theorem met_lt {α : Type} {f : α → Int} {l : List α} {key : Int} (h : bsMet (l.map f) key = true) : bsAt (l.map f) key < l.length := by
  unfold bsMet at h
  have := of_decide_eq_true h
  obtain ⟨h1, _⟩ := List.getElem?_eq_some_iff.1 this
  simpa using h1

/-! ### the three movements -/
def none0 : House := ⟨[], []⟩
def paid (h : House) (c a : Int) : House × Int :=
  if check h ≠ 0 then (none0, check h)
  else if hasB h c = false ∨ a < 1 ∨ a > 1125899906842624 then (none0, 1)
  else if IntKind.i64.wrap (total h + a) > 1125899906842624 then (none0, 2)
  else (⟨cred h.b [⟨c, a⟩], h.h⟩, 0)
def settled (h : House) (t : Int) (pd : Bool) : House × Int :=
  if check h ≠ 0 then (none0, check h)
  else if bsMet (h.h.map (·.t)) t = false then (none0, 391)
  else match h.h[bsAt (h.h.map (·.t)) t]? with
    | none => (none0, 391)
    | some x => if x.s ≠ 1 then (none0, 391)
      else if pd = true then (⟨cred h.b x.ps, h.h.set (bsAt (h.h.map (·.t)) t) ⟨x.t, x.p, x.ps, 2⟩⟩, 0)
      else (⟨cred h.b [⟨x.p, sumFrom 0 x.ps⟩], h.h.set (bsAt (h.h.map (·.t)) t) ⟨x.t, x.p, x.ps, 3⟩⟩, 0)
theorem ne_of_met {α : Type} {f : α → Int} {l : List α} {key : Int} (h : bsMet (l.map f) key = true) : l ≠ [] := by
  intro e; have := met_lt h; subst e; simp at this
theorem ne_of_check {h : House} (e : check h = 0) : h.b ≠ [] := by
  unfold check at e
  split at e
  · rename_i hc
    intro hn
    simp [checkWith, hn, areClubs] at hc
  · cases e
theorem len_of_check {h : House} (e : check h = 0) : h.b.length ≤ 192 ∧ h.h.length ≤ 4096 := by
  unfold check at e
  split at e
  · rename_i hc
    simp only [checkWith, Bool.and_eq_true, decide_eq_true_eq] at hc
    exact ⟨hc.1, hc.2.1⟩
  · cases e

/-! ### the reference's three movements -/
def addR (h : House) (ps : List Pay) : List Pay := h.b.map (fun x => addAll x ps)
def paidR (h : House) (c a : Int) : House × Int :=
  if checkR h ≠ 0 then (none0, 1)
  else if hasR h c = false ∨ a < 1 ∨ a > 1125899906842624 then (none0, 1)
  else if IntKind.i64.wrap (total h + a) > 1125899906842624 then (none0, 2)
  else (⟨addR h [⟨c, a⟩], h.h⟩, 0)
def heldAt (t : Int) : List Hold → Nat → Option (Nat × Hold)
  | [], _ => none
  | x :: l, k => if x.t ≠ t ∨ x.s ≠ 1 then heldAt t l (k + 1) else some (k, x)
def settledR (h : House) (t : Int) (pd : Bool) : House × Int :=
  if checkR h ≠ 0 then (none0, 1)
  else match heldAt t h.h 0 with
    | none => (none0, 391)
    | some (k, x) => if pd = true then (⟨addR h x.ps, h.h.set k ⟨x.t, x.p, x.ps, 2⟩⟩, 0)
      else (⟨addR h [⟨x.p, sumFrom 0 x.ps⟩], h.h.set k ⟨x.t, x.p, x.ps, 3⟩⟩, 0)
theorem heldAt_here {t : Int} {l : List Hold} {k : Nat} {x : Hold} {r : Option (Nat × Hold)} (iv : heldAt t (l.drop k) k = r) (hx : l[k]? = some x) (h1 : x.t = t) (h2 : x.s = 1) : r = some (k, x) := by
  rw [← iv, drop_cons hx, heldAt, if_neg (by simp [h1, h2])]
theorem heldAt_end {t : Int} {l : List Hold} {k : Nat} {r : Option (Nat × Hold)} (iv : heldAt t (l.drop k) k = r) (h : l.length ≤ k) : r = none := by
  rw [← iv, List.drop_eq_nil_of_le h]; rfl
def lowT (t : Int) : List Hold → Nat
  | [] => 0
  | x :: l => if x.t < t then lowT t l + 1 else 0
def metT (t : Int) (l : List Hold) : Bool := match l[lowT t l]? with | some x => x.t == t | none => false
def heldR (h : House) (t p : Int) (l : List Pay) : House × Int :=
  if checkR h ≠ 0 then (none0, 1)
  else if t < 1 ∨ t > 4096 ∨ metT t h.h = true then (none0, 391)
  else if hasR h p = false ∨ paysOK (hasR h) l = false then (none0, 1)
  else if (bal p h.b).1 < sumFrom 0 l then (none0, 390)
  else (⟨addR h [⟨p, IntKind.i64.wrap (0 - sumFrom 0 l)⟩], h.h.take (lowT t h.h) ++ [⟨t, p, l, 1⟩] ++ h.h.drop (lowT t h.h)⟩, 0)
theorem lowT_end {t : Int} {l : List Hold} {k : Nat} (iv : k + lowT t (l.drop k) = lowT t l) (h : l.length ≤ k) : lowT t l = k := by
  rw [← iv, List.drop_eq_nil_of_le h]; rfl
theorem lowT_here {t : Int} {l : List Hold} {k : Nat} {x : Hold} (iv : k + lowT t (l.drop k) = lowT t l) (hx : l[k]? = some x) (h : ¬ x.t < t) : lowT t l = k := by
  rw [← iv, drop_cons hx, lowT, if_neg h]; rfl
theorem metT_here {t : Int} {l : List Hold} {k : Nat} {x : Hold} (e : lowT t l = k) (hx : l[k]? = some x) : metT t l = (x.t == t) := by
  unfold metT; rw [e, hx]
theorem metT_end {t : Int} {l : List Hold} {k : Nat} (e : lowT t l = k) (hx : l.length ≤ k) : metT t l = false := by
  unfold metT; rw [e, List.getElem?_eq_none hx]
end Go.Proofs.Ythpjlkpkhlkhbaa

/-
  The data-level framework, part u: copy at elements of any number of cells, into a plain row. Generic in the program; no condition.
-/
set_option linter.unusedVariables false
set_option linter.unusedSimpArgs false
namespace Go.DL
open Go.RowKit

variable {P : Program}

theorem run_copy_rowK (w : World) (dT sT ty elem : TypeId) (k g o dLen dCap : Nat) (a : Addr) (sLen sCap : Nat) (cur : Array Value) (t : TypeId) (cs : List Value)
    (hu : P.underlying dT = some (.slice elem)) (hs : (P.info? elem).map (·.size) = some k)
    (hg : w.heap[g]? = some (.cells cur t (0, 0))) (hn : cs.length = Nat.min sLen dLen * k)
    (hsrc : ∀ j v, cs[j]? = some v → w.cell? (a.add j) = some v) (hfit : o + cs.length ≤ cur.size) (h1 : ∀ v ∈ cs, v.oneCell' = true) :
    (Builtin.copy_ #[dT, sT] ty #[.slice (some ⟨g, o, none⟩) dLen dCap, .slice (some a) sLen sCap]).run P w =
      .ok (goInt (Nat.min sLen dLen)) (w.setRow g (cur.toList.take o ++ cs ++ cur.toList.drop (o + cs.length)).toArray) := by
  have hl := run_loadCells_list (P := P) w a cs hsrc
  have hst := run_storeCells_at P g o t cs 0 cur w hg (by simpa using hfit) h1
  cases hq : P.info? elem with
  | none => simp [hq] at hs
  | some i =>
    have hi : i.size = k := by simpa [hq] using hs
    simp [Builtin.copy_, run_underlying hu, Builtin.lenOf, Builtin.firstCells, sizeOf, typeInfo, hq, hi, ← hn, hl, hst]
end Go.DL

/-
  The data-level framework, part v: slices.Insert into an own row. Generic in the program; no condition.
-/
set_option linter.unusedVariables false
set_option linter.unusedSimpArgs false
namespace Go.DL
open Go.RowKit

/-- What a call of slices.Insert at an own row makes. -/
def InsertOK (P : Program) (f : FuncId) (e : TypeId) (sz bytes : Nat) : Prop :=
  Callable P f ∧ ∀ (w : World) (v : Value) (n : Nat) (xs : List Value) (g2 m vc : Nat) (cur2 : Array Value) (ys : List Value) (i : Nat),
    w.ownsRow 0 e sz v n xs → w.heap[g2]? = some (.cells cur2 e (0, 0)) → v.ownBlock ≠ some g2 → ys.length = m * sz → (∀ (j : Nat) (u : Value), ys[j]? = some u → cur2[j]? = some u) →
    i ≤ n → 0 < m → (n + m) * bytes ≤ 140737488355328 → (∀ u ∈ xs, u.oneCell' = true) → (∀ u ∈ ys, u.oneCell' = true) →
    Calls P f #[v, .int .i64 i, .slice (some ⟨g2, 0, none⟩) m vc] w fun x w' => ∃ v', x = .returned v' ∧ w'.ownsRow 0 e sz v' (n + m) (xs.take (i * sz) ++ ys ++ xs.drop (i * sz)) ∧
      w.grownBy w' v.ownBlock ∧ ∀ k, v'.ownBlock = some k → v.ownBlock = some k ∨ w.heap.size ≤ k

section
variable {P : Program} {w : World} {A : Nat → Prop} {M : BMap}

/-- A new row stands for the old one. -/
theorem St.rerow {E : Env} {a : Act} {s : DS} (h : St E M w a s) {oid : Option Nat} {id : Nat} (hbase : E.base ≤ id) {e : TypeId} {sz : Nat} {ds : List D} {v v' : Value} {w' : World} {tv : List Value}
    (ho : (oid = none ∧ v.ownBlock = none) ∨ ∃ i b, oid = some i ∧ (i, b) ∈ s.bx ∧ boxBlk M (i, b) = v.ownBlock)
    (hu : ∀ d ∈ ds, d.cells.length = sz)
    (hc : ∀ (j : Nat) (c : D), (flat ds)[j]? = some c → ∃ u, tv[j]? = some u ∧ RelD w (Av E.A0 M s.bx) c u)
    (hown : w'.ownsRow 0 e sz v' ds.length tv) (hg : w.grownBy w' v.ownBlock) (hblk : ∀ k, v'.ownBlock = some k → v.ownBlock = some k ∨ w.heap.size ≤ k) :
    ∃ M', St E M' w' a (((dropOpt oid s).drop id).push id (.row e sz ds)) ∧ M'.rv id = v' := by
  obtain ⟨M1, h1, hav1, hold1⟩ : ∃ M1, StA E M1 w a (dropOpt oid s) (Av E.A0 M s.bx) ∧ (∀ b, Av E.A0 M1 (dropOpt oid s).bx b → Av E.A0 M s.bx b) ∧
      (∀ k, v.ownBlock = some k → (E.O k ∨ E.w0.heap.size ≤ k) ∧ Av E.A0 M s.bx k ∧ ∀ p ∈ (dropOpt oid s).bx, boxBlk M1 p ≠ some k) := by
    rcases ho with ⟨rfl, hn⟩ | ⟨i, b, rfl, hm, hb⟩
    · exact ⟨M, h.toA, fun _ h => h, fun k hk => by rw [hn] at hk; cases hk⟩
    · refine ⟨M.upd i 0 undef 0, h.toA.drop i 0 undef 0, fun _ hb => Av_drop hb, fun k hk => ?_⟩
      rw [← hb] at hk
      refine ⟨(h.boxes.new _ hm k hk).1, .inr ⟨_, hm, hk⟩, fun p hp hpk => ?_⟩
      obtain ⟨hne, b', hm', he⟩ := mem_drop hp
      obtain ⟨pi, pb⟩ := p
      simp only at he hne hm'
      subst he
      rw [boxBlk_upd hne, boxBlk_scrub] at hpk
      have := blks_inj h.boxes.blks _ hm' _ hm k hpk hk
      cases this
      exact hne rfl
  have h2 := h1.drop id (v'.ownBlock.getD 0) v' sz
  refine ⟨M1.upd id (v'.ownBlock.getD 0) v' sz, StA.push (row := v.ownBlock) h2 drop_free hbase hg (fun k hk => ?_) (fun b hb => hav1 b (Av_drop hb)) (fun k hk => ?_) (fun A' hA' => ?_), by simp [BMap.upd]⟩
  · obtain ⟨g1, g2, g3⟩ := hold1 k hk
    refine ⟨g1, g2, fun p hp hpk => ?_⟩
    obtain ⟨hne, b', hm', he⟩ := mem_drop hp
    obtain ⟨pi, pb⟩ := p
    simp only at he hne hm'
    subst he
    rw [boxBlk_upd hne, boxBlk_scrub] at hpk
    exact g3 _ hm' hpk
  · have hk' : v'.ownBlock = some k := by simpa [boxBlk, BMap.upd] using hk
    exact ⟨hblk k hk', (hown.lt k hk').2⟩
  · refine ⟨tv, ?_, hu, by simp [BMap.upd], fun j c hj => ?_, fun k hk => ?_⟩
    · simpa [BMap.upd] using hown
    · obtain ⟨u, hu, hr⟩ := hc j c hj
      exact ⟨u, hu, hr.mono hA'⟩
    · have hk' : v'.ownBlock = some k := by simpa [BMap.upd] using hk
      simp [BMap.upd, hk']

theorem own_one {xs : List Value} {es : List D} {sz : Nat} (hl : xs.length = es.length * sz) (hu : ∀ d ∈ es, d.cells.length = sz) (h1 : cellsOne es)
    (hc : ∀ (j : Nat) (c : D), (flat es)[j]? = some c → ∃ u, xs[j]? = some u ∧ RelD w A c u) : ∀ u ∈ xs, u.oneCell' = true := by
  intro u hm
  obtain ⟨j, hj, rfl⟩ := List.mem_iff_getElem.1 hm
  have hlt : j < (flat es).length := by rw [flat_length es hu, ← hl]; exact hj
  obtain ⟨u', hu', hr⟩ := hc j _ (List.getElem?_eq_getElem hlt)
  rw [List.getElem?_eq_getElem hj] at hu'
  cases hu'
  exact RelD.one hr (uniform_flat_one h1 j _ (List.getElem?_eq_getElem hlt))

theorem TL_insert {base : Nat} {ops : Array Oper} {o : Oper} {rest : List Oper} {Q : DX → DS → Prop} {s : DS} (e : TypeId) (sz bytes : Nat) {fop x i v : Operand} {ts : Array TypeId} (f : FuncId) (hok : InsertOK P f e sz bytes)
    (ho : o.op = .call { callee := .value fop, args := #[x, i, v], argTypes := ts }) (hgd : o.guard = none) (hf : s.ev fop = .one (.fn f []))
    (oid : Option Nat) (es : List D) (hx : oldRow s.bx e sz (s.ev x) = some (oid, es)) (k : Nat) (iv : Int) (hi : s.ev i = .one (.dat (.int .i64 iv))) (hik : iv = k) (vid : Nat) (hv : s.ev v = .one (.own vid)) (xs : List D) (hl : s.bx.lookup vid = some (.row e sz xs))
    (hne : oid ≠ some vid) (id : Nat) (hid : base ≤ id) (hle : k ≤ es.length) (hm : 0 < xs.length) (hby : (es.length + xs.length) * bytes ≤ 140737488355328) (h1 : cellsOne es) (h2 : cellsOne xs) (ds : List D) (hds : es.take k ++ xs ++ es.drop k = ds)
    (h : TL P base ops rest Q ((((dropOpt oid s).drop id).push id (.row e sz ds)).put o.dst (.one (.own id)))) : TL P base ops (o :: rest) Q s := by
  subst hds
  intro E M w a hE hst
  refine wpList_plain hgd fun K hK => ?_
  have hslots := ev_rel hst.size hst.slots
  have hfr := hslots fop
  rw [hf] at hfr
  obtain ⟨cv, hfv, hcs, hcv⟩ := hfr
  have hcv0 : cv = #[] := Array.eq_empty_of_size_eq_zero (by simpa using hcs)
  subst hcv0
  unfold Oper.wp
  rw [run_call_func ho hfv hok.1, Oper.upon_enter]
  obtain ⟨hu1, ov, hown, hc1, hoid⟩ := oldRow_owns hst.boxes.ok hx (hslots x)
  have hiv := hslots i
  rw [hi] at hiv
  simp only [LV.rel, C.rel] at hiv
  have hiv' : a.eval i = .int .i64 k := by rw [relD_int hiv, hik]
  have hvv := hslots v
  rw [hv] at hvv
  simp only [LV.rel, C.rel] at hvv
  have hvm := lookup_mem hl
  obtain ⟨ys, hyo, hu2, _, hc2, _⟩ := hst.boxes.ok vid _ hvm
  rcases hyo.2 with ⟨_, h0⟩ | ⟨g2, vc, cur2, hrv, _, hg2, hnc, _, hcs2, htk⟩
  · omega
  have hvb : boxBlk M (vid, Box.row e sz xs) = some g2 := by simp [boxBlk, hrv, Value.ownBlock]
  have hdiff : (a.eval x).ownBlock ≠ some g2 := by
    intro hxe
    rcases hoid with ⟨_, hn⟩ | ⟨ii, b, ho', hmem, hb⟩
    · rw [hn] at hxe; cases hxe
    · have := blks_inj hst.boxes.blks _ hmem _ hvm g2 (hb.trans hxe) hvb
      cases this
      exact hne ho'
  have hargs : (#[x, i, v] : Array Operand).map a.eval ++ #[] = #[a.eval x, .int .i64 k, .slice (some ⟨g2, 0, none⟩) xs.length vc] := by
    simp [hiv', hvv, hrv]
  rw [hargs]
  have h1x := own_one hown.1 hu1 h1 hc1
  have h1y := own_one hyo.1 hu2 h2 hc2
  refine (hok.2 w (a.eval x) es.length ov g2 xs.length vc cur2 ys k hown hg2 hdiff hyo.1 (fun j u hj => ?_) hle hm hby h1x h1y).mono ?_
  · rw [← htk, List.getElem?_take] at hj
    split at hj
    · simpa using hj
    · cases hj
  rintro x' w' ⟨v', rfl, hown', hgr, hblk⟩
  have hlen : (es.take k ++ xs ++ es.drop k).length = es.length + xs.length := by
    simp only [List.length_append, List.length_take, List.length_drop]; omega
  have hflat : flat (es.take k ++ xs ++ es.drop k) = (flat es).take (k * sz) ++ flat xs ++ (flat es).drop (k * sz) := by
    rw [flat_append, flat_append, flat_take es k hu1, flat_drop es k hu1]
  have hfl1 := flat_length es hu1
  have hfl2 := flat_length xs hu2
  have hol := hown.1
  have hyl := hyo.1
  have hks : k * sz ≤ es.length * sz := Nat.mul_le_mul_right _ hle
  obtain ⟨M', hst', hrv'⟩ := hst.rerow (id := id) (by omega : E.base ≤ id) (ds := es.take k ++ xs ++ es.drop k) (tv := ov.take (k * sz) ++ ys ++ ov.drop (k * sz)) hoid
    (fun d hd => by
      simp only [List.mem_append] at hd
      rcases hd with (hd | hd) | hd
      · exact hu1 d (List.mem_of_mem_take hd)
      · exact hu2 d hd
      · exact hu1 d (List.mem_of_mem_drop hd))
    (fun j c hj => by
      rw [hflat] at hj
      have ht1 : ((flat es).take (k * sz)).length = k * sz := by rw [List.length_take]; omega
      have ht2 : (ov.take (k * sz)).length = k * sz := by rw [List.length_take]; omega
      rw [List.getElem?_append, List.getElem?_append, List.length_append, ht1] at hj
      rw [List.getElem?_append, List.getElem?_append, List.length_append, ht2, hyl, ← hfl2]
      split at hj
      · rename_i hlt
        rw [if_pos hlt]
        split at hj
        · rename_i hlt2
          rw [if_pos hlt2]
          rw [List.getElem?_take, if_pos hlt2] at hj
          rw [List.getElem?_take, if_pos hlt2]
          exact hc1 j c hj
        · rename_i hlt2
          rw [if_neg hlt2]
          exact hc2 _ c hj
      · rename_i hlt
        rw [if_neg hlt]
        rw [List.getElem?_drop] at hj ⊢
        exact hc1 _ c hj)
    (by rw [hlen]; exact hown') hgr hblk
  exact hK _ _ (h E M' w' _ hE (hst'.put o.dst (by simp only [LV.rel, C.rel]; exact hrv'.symm)))
end
end Go.DL

/-
  The data-level framework, part w: nil slices read as empty data: in a state, and as a call's arguments. Generic in the program; no condition.
-/
set_option linter.unusedVariables false
set_option linter.unusedSimpArgs false
namespace Go.DL
open Go.RowKit

def C.unnil (sz : Nat) : C → C
  | .dat (.con (.slice none 0 0)) => .dat (.sl sz [])
  | c => c
def LV.unnil (j sz : Nat) : LV → LV
  | .one c => .one (c.unnil sz)
  | .agg cs => .agg (cs.modify j (C.unnil sz))
  | l => l
def DS.unnil (t j sz : Nat) (s : DS) : DS := { s with sl := s.sl.modify t (LV.unnil j sz) }

theorem nil_sl {w : World} {A : Nat → Prop} {v : Value} (sz : Nat) (h : RelD w A (.con (.slice none 0 0)) v) : RelD w A (.sl sz []) v := by
  cases h; exact .sl0 sz none 0 (fun _ => rfl)

section
variable {P : Program} {w : World} {A : Nat → Prop} {M : BMap} {base : Nat} {Q : DX → DS → Prop} {s : DS}

theorem C.unnil_rel {sz : Nat} {c : C} {v : Value} (h : C.rel w A M c v) : C.rel w A M (c.unnil sz) v := by
  unfold C.unnil
  split
  · exact nil_sl sz h
  · exact h

theorem LV.unnil_rel {j sz : Nat} {l : LV} {v : Value} (h : LV.rel w A M l v) : LV.rel w A M (l.unnil j sz) v := by
  unfold LV.unnil
  split
  · exact C.unnil_rel h
  · obtain ⟨arr, h1, h2, h3⟩ := h
    refine ⟨arr, h1, by simp [h2], fun k c hk => ?_⟩
    rw [List.getElem?_modify] at hk
    simp only [Option.map_eq_map, Option.map_eq_some_iff] at hk
    obtain ⟨c', hc', rfl⟩ := hk
    obtain ⟨u, hu, hr⟩ := h3 k c' hc'
    refine ⟨u, hu, ?_⟩
    split
    · exact C.unnil_rel hr
    · exact hr
  · exact h

theorem DS.le_unnil (s : DS) (t j sz : Nat) : s.Le (s.unnil t j sz) := by
  intro E M w a h
  refine ⟨M, h.defers, by simp [DS.unnil, h.size], fun k l hk => ?_, h.boxes⟩
  simp only [DS.unnil, List.getElem?_modify, Option.map_eq_map, Option.map_eq_some_iff] at hk
  obtain ⟨l', hl', rfl⟩ := hk
  have := h.slots k l' hl'
  simp only [DS.unnil]
  split
  · exact LV.unnil_rel this
  · exact this

theorem T_unnil {c : Code} (t j sz : Nat) (s' : DS) (h : s.unnil t j sz = s') (hq : T P base c Q s') : T P base c Q s := T_le ((DS.le_unnil s t j sz).trans (DS.le_of_eq h)) hq
theorem TL_unnil {ops : Array Oper} {l : List Oper} (t j sz : Nat) (s' : DS) (h : s.unnil t j sz = s') (hq : TL P base ops l Q s') : TL P base ops l Q s := TL_le ((DS.le_unnil s t j sz).trans (DS.le_of_eq h)) hq

/-- Whatever reads as d' reads as d. -/
def Weak (d d' : D) : Prop := ∀ (w : World) (A : Nat → Prop) (v : Value), RelD w A d' v → RelD w A d v
theorem Weak.refl (d : D) : Weak d d := fun _ _ _ h => h
theorem Weak.nil (sz : Nat) : Weak (.sl sz []) (.con (.slice none 0 0)) := fun _ _ _ h => nil_sl sz h
def AllWeak : List D → List D → Prop
  | [], [] => True
  | d :: ds, d' :: ds' => Weak d d' ∧ AllWeak ds ds'
  | _, _ => False
theorem AllWeak.length : ∀ {ds ds' : List D}, AllWeak ds ds' → ds.length = ds'.length
  | [], [], _ => rfl
  | _ :: _, _ :: _, h => by simp [AllWeak.length h.2]
  | [], _ :: _, h => h.elim
  | _ :: _, [], h => h.elim
theorem AllWeak.get : ∀ {ds ds' : List D}, AllWeak ds ds' → ∀ (j : Nat) (d : D), ds[j]? = some d → ∃ d', ds'[j]? = some d' ∧ Weak d d'
  | _ :: _, d' :: _, h, 0, d, hj => by simp at hj; subst hj; exact ⟨d', rfl, h.1⟩
  | _ :: ds, _ :: ds', h, j + 1, d, hj => by simpa using AllWeak.get h.2 j d (by simpa using hj)
  | [], [], _, _, _, hj => by simp at hj
  | [], _ :: _, h, _, _, _ => h.elim
  | _ :: _, [], h, _, _, _ => h.elim
theorem Weak.agg {ds ds' : List D} (h : AllWeak ds ds') : Weak (.agg ds) (.agg ds') := by
  intro w A v hr
  cases hr with
  | agg _ arr hs vs hv hrel =>
    refine .agg ds arr (by rw [hs, h.length]) vs (fun j c hj => ?_) (fun j c hj => ?_)
    · obtain ⟨d', hd', _⟩ := h.get j c hj; exact hv j d' hd'
    · obtain ⟨d', hd', hw⟩ := h.get j c hj; exact hw _ _ _ (hrel j d' hd')
theorem Ret.weak {f : FuncId} {ds ds' : List D} {d : D} (hr : Ret P f ds d) (h : AllWeak ds ds') : Ret P f ds' d := by
  refine ⟨hr.1, fun w A vs hA hs hv => hr.2 w A vs hA (by rw [hs, h.length]) fun j c hj => ?_⟩
  obtain ⟨d', hd', hw⟩ := h.get j c hj
  obtain ⟨u, hu, hrel⟩ := hv j d' hd'
  exact ⟨u, hu, hw _ _ _ hrel⟩
end
end Go.DL

/-
  The data-level framework, part x: regions that draw their order and hold one allocation and one store into what it made. Generic in the program; no condition.
-/
set_option linter.unusedVariables false
set_option linter.unusedSimpArgs false
namespace Go.DL
open Go.RowKit

/-- The operations that only make values, and two others: one that makes a box, and one that stores into it. -/
def pexecS (P : Program) (ops : Array Oper) (m m2 : Nat) (lv0 : LV) : List Oper → List Hint → Nat → DS → Option (Prop × List LV × DS)
  | [], _, _, s => some (True, [], s)
  | o :: os, hs, k, s =>
    match k == m || k == m2 with
    | true => match pexecS P ops m m2 lv0 os hs.tail (k + 1) (s.put o.dst lv0) with
      | some (q, vs, s') => some (q, lv0 :: vs, s')
      | none => none
    | false => match wantB ops o s (hs.headD {}).g with
      | none => none
      | some (p, false) => match pexecS P ops m m2 lv0 os hs.tail (k + 1) (s.put o.dst UD) with
        | some (q, vs, s') => some (p ∧ q, UD :: vs, s')
        | none => none
      | some (p, true) => match pval P s.ev s.bx (hs.headD {}).d o with
        | none => none
        | some (r, lv) => match pexecS P ops m m2 lv0 os hs.tail (k + 1) (s.put o.dst lv) with
          | some (q, vs, s') => some (p ∧ r ∧ q, lv :: vs, s')
          | none => none


/-- What a list of results makes of the slots. -/
def putAll : List Oper → List LV → DS → DS
  | o :: os, v :: vs, s => putAll os vs (s.put o.dst v)
  | _, _, s => s
theorem putAll_snoc : ∀ (l : List Oper) (vs : List LV) (s : DS) (i : Nat) (o : Oper) (v : LV), l[i]? = some o → vs[i]? = some v → putAll (l.take (i + 1)) (vs.take (i + 1)) s = (putAll (l.take i) (vs.take i) s).put o.dst v
  | o' :: l, v' :: vs, s, 0, o, v, h1, h2 => by simp at h1 h2; subst h1; subst h2; simp [putAll]
  | o' :: l, v' :: vs, s, i + 1, o, v, h1, h2 => by
    simp only [List.take_succ_cons, putAll]
    exact putAll_snoc l vs _ i o v (by simpa using h1) (by simpa using h2)
  | [], _, _, _, _, _, h1, _ => by simp at h1
  | _ :: _, [], _, _, _, _, _, h2 => by simp at h2
theorem putAll_st {l : List Oper} {vs : List LV} {st : Nat → DS} : ∀ i, (∀ j, j < i → ∃ o v, l[j]? = some o ∧ vs[j]? = some v ∧ st (j + 1) = (st j).put o.dst v) → putAll (l.take i) (vs.take i) (st 0) = st i
  | 0, _ => by simp [putAll]
  | i + 1, h => by
    obtain ⟨o, v, h1, h2, h3⟩ := h i (by omega)
    rw [putAll_snoc l vs _ i o v h1 h2, putAll_st i (fun j hj => h j (by omega)), h3]
theorem eStore_bx {P : Program} {s s2 s' : DS} {T : TypeId} {x y : LV} {q : Prop} (hb : s2.bx = s.bx) (h : eStore P s T x y none = some (q, s')) : eStore P s2 T x y none = some (q, ⟨s2.sl, s'.bx⟩) := by
  unfold eStore at h ⊢
  rw [hb]
  cases hi : P.info? T with
  | none => simp [hi] at h
  | some i =>
    cases hc : y.cs s.bx with
    | none => simp [hi, hc] at h
    | some cs =>
      simp only [hi, hc] at h ⊢
      cases hf : (cs.length == i.size && cs.all (C.fit s.bx)) with
      | false => simp [hf] at h
      | true =>
        simp only [hf] at h ⊢
        split at h
        · rename_i id off
          cases hl : s.bx.lookup id with
          | none => simp [hl] at h
          | some bb =>
            cases bb with
            | row e sz es => simp [hl] at h
            | map Q k e m => simp [hl] at h
            | var cs0 =>
              simp only [hl] at h ⊢
              cases hle : Nat.ble (off + cs.length) cs0.length with
              | false => simp [hle] at h
              | true =>
                simp only [hle, Option.some.injEq, Prod.mk.injEq] at h ⊢
                obtain ⟨h3, h4⟩ := h
                refine ⟨h3, ?_⟩
                rw [← h4]
                simp [DS.setBox, hb]
        · simp at h
        · cases h

section
variable {P : Program} {w : World} {A : Nat → Prop} {M : BMap}

theorem pexecS_steps {ops : Array Oper} {m m2 : Nat} {lv0 : LV} : ∀ (l : List Oper) (hs : List Hint) (k : Nat) (s s' : DS) (vs : List LV) (side : Prop), pexecS P ops m m2 lv0 l hs k s = some (side, vs, s') → side →
    vs.length = l.length ∧ ∃ (st : Nat → DS), st 0 = s ∧ st l.length = s' ∧ ∀ i o, l[i]? = some o → ∃ v, vs[i]? = some v ∧ st (i + 1) = (st i).put o.dst v ∧ (k + i = m ∨ k + i = m2 → v = lv0) ∧ (¬ (k + i = m ∨ k + i = m2) → Good P ops (st i) o v)
  | [], hs, k, s, s', vs, side, h, _ => by
    simp only [pexecS, Option.some.injEq, Prod.mk.injEq] at h
    obtain ⟨_, rfl, rfl⟩ := h
    exact ⟨rfl, fun _ => s, rfl, rfl, fun i o hi => by simp at hi⟩
  | o :: os, hs, k, s, s', vs, side, h, hside => by
    unfold pexecS at h
    have cons : ∀ (v0 : LV) (q : Prop) (ws : List LV), pexecS P ops m m2 lv0 os hs.tail (k + 1) (s.put o.dst v0) = some (q, ws, s') → q → (k = m ∨ k = m2 → v0 = lv0) → (¬ (k = m ∨ k = m2) → Good P ops s o v0) →
        (v0 :: ws).length = (o :: os).length ∧ ∃ (st : Nat → DS), st 0 = s ∧ st (o :: os).length = s' ∧ ∀ i o', (o :: os)[i]? = some o' → ∃ v, (v0 :: ws)[i]? = some v ∧ st (i + 1) = (st i).put o'.dst v ∧ (k + i = m ∨ k + i = m2 → v = lv0) ∧ (¬ (k + i = m ∨ k + i = m2) → Good P ops (st i) o' v) := by
      intro v0 q ws hq hqs hm hg
      obtain ⟨hl, st, h1, h2, h3⟩ := pexecS_steps os hs.tail (k + 1) _ s' ws q hq hqs
      refine ⟨by simp [hl], fun i => match i with | 0 => s | i + 1 => st i, rfl, h2, fun i o' hi => ?_⟩
      cases i with
      | zero => simp at hi; subst hi; exact ⟨v0, rfl, h1, fun e => hm (by omega), fun e => hg (by omega)⟩
      | succ i =>
        obtain ⟨v, g1, g2, g3, g4⟩ := h3 i o' (by simpa using hi)
        exact ⟨v, by simpa using g1, g2, fun e => g3 (by omega), fun e => g4 (by omega)⟩
    split at h
    · rename_i hk
      have hk' : k = m ∨ k = m2 := by simpa using hk
      split at h
      · rename_i q ws s2 h2
        simp only [Option.some.injEq, Prod.mk.injEq] at h
        obtain ⟨h1, rfl, rfl⟩ := h
        rw [← h1] at hside
        exact cons _ q ws h2 hside (fun _ => rfl) (fun e => absurd hk' e)
      · cases h
    · rename_i hk
      have hk' : ¬ (k = m ∨ k = m2) := by simpa using hk
      split at h
      · cases h
      · rename_i p hw
        split at h
        · rename_i q ws s2 h2
          simp only [Option.some.injEq, Prod.mk.injEq] at h
          obtain ⟨h1, rfl, rfl⟩ := h
          rw [← h1] at hside
          exact cons _ q ws h2 hside.2 (fun e => absurd e hk') fun _ => ⟨_, p, false, hw, hside.1, .inl ⟨rfl, rfl⟩⟩
        · cases h
      · rename_i p hw
        split at h
        · cases h
        · rename_i r lv h3
          split at h
          · rename_i q ws s2 h2
            simp only [Option.some.injEq, Prod.mk.injEq] at h
            obtain ⟨h1, rfl, rfl⟩ := h
            rw [← h1] at hside
            exact cons _ q ws h2 hside.2.2 (fun e => absurd e hk') fun _ => ⟨_, p, true, hw, hside.1, .inr ⟨rfl, _, r, h3, hside.2.1⟩⟩
          · cases h


def dexecDrawS (P : Program) (base : Nat) (l : List Oper) (n m m2 d : Nat) (t T0 : TypeId) (x0 y0 : Operand) (hs : List Hint) (s : DS) : Option (Prop × List LV × List LV × List LV × DS) :=
  match zeroC P t with
  | none => none
  | some cs => match pexecS P l.toArray m m2 (.one (.ref (base + d) 0)) (l.take n) hs 0 (s.drop (base + d)) with
    | none => none
    | some (p, vs, _) => match eStore P (putAll (l.take m2) (vs.take m2) ((s.drop (base + d)).push (base + d) (.var cs))) T0 ((putAll (l.take m2) (vs.take m2) ((s.drop (base + d)).push (base + d) (.var cs))).ev x0) ((putAll (l.take m2) (vs.take m2) ((s.drop (base + d)).push (base + d) (.var cs))).ev y0) none with
      | none => none
      | some (qS, sS) => match pexecS P l.toArray m m2 (.one (.ref (base + d) 0)) (l.take n) hs 0 ((s.drop (base + d)).push (base + d) (.var cs)) with
        | none => none
        | some (p', vs', _) => match pexecS P l.toArray m m2 (.one (.ref (base + d) 0)) (l.take n) hs 0 ⟨(s.drop (base + d)).sl, sS.bx⟩ with
          | none => none
          | some (p'', vs'', s1) => match dexec P base l.toArray (l.drop n) (hs.drop n) s1 with
            | none => none
            | some (q, s2) => some (p ∧ p' ∧ p'' ∧ qS ∧ q, vs, vs', vs'', s2)

theorem T_drawS {base rid : Nat} {l : List Oper} {Q : DX → DS → Prop} {s : DS} (n m m2 d : Nat) (t0 T0 : TypeId) (x0 y0 : Operand) (hs : List Hint) (s' : DS) (side : Prop) (hm : P.follows .mixedOrders = true) (hok : drawOk l.toArray n = true)
    (hmn : Nat.blt m2 n = true) (hmm : Region.waitsFor .any l.toArray m2 m = true) (hlt0 : Nat.blt m m2 = true) (hop : (l[m]?).map (fun o => (o.op, o.dst, o.guard)) = some (.alloc t0, some d, none)) (hop2 : (l[m2]?).map (fun o => (o.op, o.dst, o.guard)) = some (.store T0 x0 y0, none, none))
    (h : (dexecDrawS P base l n m m2 d t0 T0 x0 y0 hs s).map (fun r => (r.1, r.2.2.2.2)) = some (side, s'))
    (hv : (dexecDrawS P base l n m m2 d t0 T0 x0 y0 hs s).map (fun r => (r.2.1, r.2.1, fixVals l.toArray m (base + d) 0 r.2.1)) = (dexecDrawS P base l n m m2 d t0 T0 x0 y0 hs s).map (fun r => (r.2.2.1, r.2.2.2.1, r.2.1)))
    (hside : side) (hq : Q .normal s') : T P base (.region rid l.toArray true) Q s := by
  intro E M00 w0 a0 hbase hst00
  obtain ⟨M0, hst0⟩ := DS.le_drop s (base + d) E M00 w0 a0 hst00
  generalize hid : base + d = id at *
  unfold dexecDrawS at h hv
  rw [hid] at h hv
  cases hz : zeroC P t0 with
  | none => rw [hz] at h; cases h
  | some cs =>
  simp only [hz] at h hv
  cases h1 : pexecS P l.toArray m m2 (.one (.ref id 0)) (l.take n) hs 0 (s.drop id) with
  | none => rw [h1] at h; cases h
  | some r1 =>
  obtain ⟨p, vs, s1F⟩ := r1
  simp only [h1] at h hv
  generalize hsm : putAll (l.take m2) (vs.take m2) ((s.drop id).push id (.var cs)) = sm at h hv
  cases hst : eStore P sm T0 (sm.ev x0) (sm.ev y0) none with
  | none => rw [hst] at h; cases h
  | some rS =>
  obtain ⟨qS, sS⟩ := rS
  simp only [hst] at h hv
  cases h2 : pexecS P l.toArray m m2 (.one (.ref id 0)) (l.take n) hs 0 ((s.drop id).push id (.var cs)) with
  | none => rw [h2] at h; cases h
  | some r2 =>
  obtain ⟨p', vs', s1T⟩ := r2
  simp only [h2] at h hv
  cases h2' : pexecS P l.toArray m m2 (.one (.ref id 0)) (l.take n) hs 0 ⟨(s.drop id).sl, sS.bx⟩ with
  | none => rw [h2'] at h; cases h
  | some r2' =>
  obtain ⟨p'', vs'', s1⟩ := r2'
  simp only [h2'] at h hv
  cases h3 : dexec P base l.toArray (l.drop n) (hs.drop n) s1 with
  | none => rw [h3] at h; cases h
  | some r3 =>
  obtain ⟨q, s2⟩ := r3
  simp only [h3, Option.map_some, Option.some.injEq, Prod.mk.injEq] at h hv
  obtain ⟨hv1, hv1', hv2⟩ := hv
  obtain ⟨hsd, rfl⟩ := h
  rw [← hsd] at hside
  rw [← hv1] at h2
  rw [← hv1'] at h2'
  obtain ⟨hlenv, stF, hF0, hFn, hFs⟩ := pexecS_steps _ _ _ _ _ _ _ h1 hside.1
  obtain ⟨_, stT, hT0, hTn, hTs⟩ := pexecS_steps _ _ _ _ _ _ _ h2 hside.2.1
  obtain ⟨_, stS, hS0, hSn, hSs⟩ := pexecS_steps _ _ _ _ _ _ _ h2' hside.2.2.1
  have hqS := hside.2.2.2.1
  have htail := dexec_sound (P := P) (base := base) (Q := Q) _ _ _ _ _ h3 hside.2.2.2.2 hq
  have hm2n : m2 < n := by simpa [Nat.blt_eq] using hmn
  have hmm2 : m < m2 := by simpa [Nat.blt_eq] using hlt0
  have hmn' : m < n := by omega
  simp only [drawOk, Bool.and_eq_true] at hok
  obtain ⟨⟨⟨⟨⟨hsel, hnle⟩, hpairs⟩, hback⟩, hsink⟩, hseq⟩ := hok
  have hnle' : n ≤ l.length := by simpa using Nat.le_of_ble_eq_true hnle
  have htl : (l.take n).length = n := by simp; omega
  rw [htl] at hFn hTn hSn hlenv
  let v : Nat → LV := fun i => vs.getD i (.one .junk)
  have hgetF : ∀ i, i < n → ∃ o, l[i]? = some o ∧ stF (i + 1) = (stF i).put o.dst (v i) ∧ (i = m ∨ i = m2 → v i = .one (.ref id 0)) ∧ (¬ (i = m ∨ i = m2) → Good P l.toArray (stF i) o (v i)) := by
    intro i hi
    have hlt : i < l.length := by omega
    obtain ⟨u, g1, g2, g3, g4⟩ := hFs i l[i] (by rw [List.getElem?_take, if_pos hi, List.getElem?_eq_getElem hlt])
    have : v i = u := by simp [v, List.getD, g1]
    rw [Nat.zero_add] at g3 g4
    exact ⟨l[i], List.getElem?_eq_getElem hlt, by rw [this]; exact g2, by rw [this]; exact g3, by rw [this]; exact g4⟩
  have hgetT : ∀ i, i < n → ∃ o, l[i]? = some o ∧ stT (i + 1) = (stT i).put o.dst (v i) ∧ (i = m ∨ i = m2 → v i = .one (.ref id 0)) ∧ (¬ (i = m ∨ i = m2) → Good P l.toArray (stT i) o (v i)) := by
    intro i hi
    have hlt : i < l.length := by omega
    obtain ⟨u, g1, g2, g3, g4⟩ := hTs i l[i] (by rw [List.getElem?_take, if_pos hi, List.getElem?_eq_getElem hlt])
    have : v i = u := by simp [v, List.getD, g1]
    rw [Nat.zero_add] at g3 g4
    exact ⟨l[i], List.getElem?_eq_getElem hlt, by rw [this]; exact g2, by rw [this]; exact g3, by rw [this]; exact g4⟩
  have hgetS : ∀ i, i < n → ∃ o, l[i]? = some o ∧ stS (i + 1) = (stS i).put o.dst (v i) ∧ (i = m ∨ i = m2 → v i = .one (.ref id 0)) ∧ (¬ (i = m ∨ i = m2) → Good P l.toArray (stS i) o (v i)) := by
    intro i hi
    have hlt : i < l.length := by omega
    obtain ⟨u, g1, g2, g3, g4⟩ := hSs i l[i] (by rw [List.getElem?_take, if_pos hi, List.getElem?_eq_getElem hlt])
    have : v i = u := by simp [v, List.getD, g1]
    rw [Nat.zero_add] at g3 g4
    exact ⟨l[i], List.getElem?_eq_getElem hlt, by rw [this]; exact g2, by rw [this]; exact g3, by rw [this]; exact g4⟩
  let s0 : DS := s.drop id
  let bxA : Nat → List (Nat × Box) := fun b => match b with | 0 => s0.bx | 1 => (id, .var cs) :: s0.bx | _ => sS.bx
  let ph : Array Bool → Nat := fun listed => match listed.getD m2 false, listed.getD m false with | true, _ => 2 | false, true => 1 | false, false => 0
  let dst : Nat → Option Tmp := fun i => (l[i]?).bind (·.dst)
  have hgood : ∀ b : Nat, b ≤ 2 → ∃ st : Nat → DS, (∀ i, i < n → ∃ o, l[i]? = some o ∧ (¬ (i = m ∨ i = m2) → Good P l.toArray (st i) o (v i))) ∧
      ∀ i, i ≤ n → (st i).sl.length = s0.sl.length ∧ (st i).bx = bxA b ∧ ∀ t, (st i).sl[t]? = view dst v s0.sl (fun _ => true) i t := by
    intro b hb2
    match b, hb2 with
    | 0, _ =>
      have := st_view (l := l) (n := n) (v := v) (st := stF) fun i hi => let ⟨o, a1, a2, _⟩ := hgetF i hi; ⟨o, a1, a2⟩
      rw [hF0] at this
      exact ⟨stF, fun i hi => let ⟨o, a1, _, _, a4⟩ := hgetF i hi; ⟨o, a1, a4⟩, this⟩
    | 1, _ =>
      have := st_view (l := l) (n := n) (v := v) (st := stT) fun i hi => let ⟨o, a1, a2, _⟩ := hgetT i hi; ⟨o, a1, a2⟩
      rw [hT0] at this
      exact ⟨stT, fun i hi => let ⟨o, a1, _, _, a4⟩ := hgetT i hi; ⟨o, a1, a4⟩, this⟩
    | 2, _ =>
      have := st_view (l := l) (n := n) (v := v) (st := stS) fun i hi => let ⟨o, a1, a2, _⟩ := hgetS i hi; ⟨o, a1, a2⟩
      rw [hS0] at this
      exact ⟨stS, fun i hi => let ⟨o, a1, _, _, a4⟩ := hgetS i hi; ⟨o, a1, a4⟩, this⟩
  have hpair : ∀ k j, k < n → j < n → k < j → ∀ x y, l[k]? = some x → l[j]? = some y → Region.waitsFor .any l.toArray j k = true ∨ x.apart l.toArray y = true := by
    intro k j hk hj hkj x y hx hy
    have h1 := List.all_eq_true.1 hpairs k (List.mem_range.2 hk)
    have h2 := List.all_eq_true.1 h1 j (List.mem_range.2 hj)
    simp only [Bool.or_eq_true] at h2
    rcases h2 with (h2 | h2) | h2
    · have := Nat.le_of_ble_eq_true h2; omega
    · exact .inl h2
    · simp only [List.getElem?_toArray, hx, hy] at h2
      exact .inr h2
  obtain ⟨om, hom, hopm⟩ := Option.map_eq_some_iff.1 hop
  simp only [Prod.mk.injEq] at hopm
  obtain ⟨hom1, hom2, hom3⟩ := hopm
  obtain ⟨oS, hoS, hopS⟩ := Option.map_eq_some_iff.1 hop2
  simp only [Prod.mk.injEq] at hopS
  obtain ⟨hoS1, hoS2, hoS3⟩ := hopS
  have hsmT : stT m2 = sm := by
    rw [← hsm, ← hT0]
    refine (putAll_st (l := l) (vs := vs) (st := stT) m2 fun i hi => ?_).symm
    obtain ⟨o, a1, a2, _⟩ := hgetT i (by omega)
    have hlt : i < vs.length := by omega
    exact ⟨o, v i, a1, by simp [v, List.getD, List.getElem?_eq_getElem hlt], a2⟩
  have hph : ∀ listed, ph listed ≤ 2 := fun listed => by simp only [ph]; split <;> omega
  refine wp_region_any hm ?_
  have head : ∀ (f : Nat) (listed : Array Bool) (a : Act) (w : World) (M : BMap), todo n listed = f → HeadInv .any l.toArray n listed → a.defers = E.defs → a.tmps.size = s0.sl.length →
      (∀ t lv, view dst v s0.sl (fun j => listed.getD j false) n t = some lv → LV.rel w (Av E.A0 M (bxA (ph listed))) M lv (a.tmps.getD t undef)) → Boxes E M w (bxA (ph listed)) →
      wpAny P .any l.toArray (Lift E Q) (f + (l.length - n)) listed a w := by
    intro f
    induction f with
    | zero =>
      intro listed a w M htodo inv hdef hsz hslots hbx
      have hall := todo_zero htodo
      have hlm : ph listed = 2 := by simp only [ph, hall m2 hm2n]
      rw [hlm] at hslots hbx
      have hlist : listed = headListed n l.toArray.size := listed_eq inv.size (by simpa using hnle') hall (fun i h1 h2 => inv.tail i h1 h2)
      rw [Nat.zero_add]
      have hstn' : St E M w a s1 := by
        rw [← hSn]
        have := st_view (l := l) (n := n) (v := v) (st := stS) fun i hi => let ⟨o, a1, a2, _⟩ := hgetS i hi; ⟨o, a1, a2⟩
        rw [hS0] at this
        obtain ⟨g1, g2, g3⟩ := this n (Nat.le_refl _)
        refine ⟨hdef, by rw [hsz, g1], fun t lv hlv => ?_, by rw [g2]; exact hbx⟩
        rw [g2]
        rw [g3] at hlv
        refine hslots t lv ?_
        have key : ∀ k, k ≤ n → view dst v s0.sl (fun j => listed.getD j false) k t = view dst v s0.sl (fun _ => true) k t := by
          intro k
          induction k with
          | zero => intro _; rfl
          | succ k ih => intro hk; simp only [view]; rw [ih (by omega)]; simp only [hall k (by omega)]
        rw [key n (Nat.le_refl _)]
        exact hlv
      have hdl : (l.drop n).length = l.length - n := by simp
      have := wpAny_of_seq (md := .any) (ops := l.toArray) (P := P) (Q' := Lift E Q) (l.drop n) n listed a w (fun j => by simp [List.getElem?_drop]) (by rw [hdl, hlist]; simpa using hseq) (htail E M w a hbase hstn')
      rwa [hdl] at this
    | succ f ih =>
      intro listed a w M htodo inv hdef hsz hslots hbx
      rw [show f + 1 + (l.length - n) = (f + (l.length - n)) + 1 by omega]
      obtain ⟨i0, hi0, hl0, hbef⟩ := exists_todo htodo
      have hready0 : i0 ∈ Region.ready .any l.toArray listed := by
        obtain ⟨o, ho, _, _⟩ := hgetF i0 hi0
        refine mem_ready.2 ⟨getD_in (by rw [inv.size]; simp; omega) hl0, o, by simpa using ho, fun e he hbnd => ?_⟩
        have hb := List.all_eq_true.1 hback i0 (List.mem_range.2 hi0)
        simp only [List.getElem?_toArray, ho] at hb
        have := Array.all_eq_true_iff_forall_mem.1 hb e he
        simp only [hbnd, Bool.not_true, Bool.false_or] at this
        exact hbef e.on (by simpa [Nat.blt_eq] using this)
      refine ⟨fun h0 => (by rw [h0] at hready0; cases hready0), fun i hi => ?_⟩
      obtain ⟨hun, o, hoi, hall⟩ := mem_ready.1 hi
      have hisz : i < l.length := by
        have := (Array.getElem?_eq_some_iff.1 hoi).1
        simpa using this
      have hin : i < n := by
        rcases Nat.lt_or_ge i n with h | h
        · exact h
        · rcases Bool.or_eq_true _ _ ▸ hsink with hsink | hsink
          · have : n = l.length := by simpa using hsink
            omega
          · simp only [Bool.and_eq_true] at hsink
            exact absurd hi (tail_waits hsink.1 hsink.2 (by simp; omega) inv _ i0 rfl hi0 (getD_in (by rw [inv.size]; simp; omega) hl0) i h)
      have hXi : listed.getD i false = false := getD_both hun
      have hoi' : l[i]? = some o := by simpa using hoi
      have hls : i < listed.size := by rw [inv.size]; simp; omega
      have hwait : ∀ j k, Region.waitsFor .any l.toArray j k = true → listed.getD j false = true → listed.getD k false = true := by
        intro j k hw hl
        obtain ⟨oj, hoj, e, he, hb, hon⟩ := Region.waitsFor_spec hw
        rw [← hon]
        exact inv.closed j oj hoj hl e he hb
      have hdstj : ∀ j t, dst j = some t → ∃ oj, l[j]? = some oj ∧ oj.dst = some t := by
        intro j t hj
        simp only [dst] at hj
        cases hlj : l[j]? with
        | none => simp [hlj] at hj
        | some oj => exact ⟨oj, rfl, by simpa [hlj] using hj⟩
      have hX' : (fun j => (listed.setIfInBounds i true).getD j false) = fun j => listed.getD j false || j == i := by
        funext j
        by_cases hj : i = j
        · subst hj; simp [hls]
        · rw [getD_set_ne false hj]
          have : (j == i) = false := by simpa using fun e => hj e.symm
          simp [this]
      have hview : ∀ t, view dst v s0.sl (fun j => (listed.setIfInBounds i true).getD j false) n t = if i < n ∧ dst i = some t ∧ t < s0.sl.length then some (v i) else view dst v s0.sl (fun j => listed.getD j false) n t := by
        intro t
        rw [hX']
        exact view_after (i := i) hXi n (fun j t hij hjn hdi hdj => by
          obtain ⟨oj, hoj, hdo⟩ := hdstj j t hdj
          rcases hpair i j hin hjn hij o oj hoi' hoj with h1 | h1
          · cases hlj : listed.getD j false with
            | false => rfl
            | true => rw [hwait j i h1 hlj] at hXi; cases hXi
          · have hdi' : o.dst = some t := by simpa [dst, hoi'] using hdi
            exact absurd hdo ((Oper.apart_spec h1).2.1 t hdi')) t
      have hdi : dst i = o.dst := by simp [dst, hoi']
      by_cases him : i = m
      · subst him
        have : om = o := Option.some.inj (hom.symm.trans hoi')
        subst this
        have hl2 : listed.getD m2 false = false := by
          cases hb : listed.getD m2 false with
          | false => rfl
          | true => rw [hwait m2 i hmm hb] at hXi; cases hXi
        have hp0 : ph listed = 0 := by simp only [ph, hl2, hXi]
        rw [hp0] at hslots hbx
        have hvm : v i = .one (.ref id 0) := by
          obtain ⟨_, _, _, g, _⟩ := hgetF i hin
          exact g (.inl rfl)
        let ds : DS := ⟨(List.range a.tmps.size).map fun t => (view dst v s0.sl (fun j => listed.getD j false) n t).getD (.one .junk), s0.bx⟩
        have hds : St E M w a ds := by
          refine ⟨hdef, by simp [ds], fun t lv hlv => ?_, hbx⟩
          simp only [ds, List.getElem?_map, Option.map_eq_some_iff] at hlv
          obtain ⟨t', ht', rfl⟩ := hlv
          have := (List.getElem?_eq_some_iff.1 ht')
          obtain ⟨hlt, he⟩ := this
          simp at he
          subst he
          cases hvw : view dst v s0.sl (fun j => listed.getD j false) n t with
          | none => trivial
          | some lv => exact hslots t lv hvw
        have he : estep P base om ds none = some (True, ((ds.drop id).push id (.var cs)).put (some d) (.one (.ref id 0))) := by
          simp only [estep, hom1, hom2, hz, hid]
        have hes := estep_sound (P := P) he trivial hds hbase
        unfold wpOp
        simp only [hoi]
        rw [show Region.wanted om (yielded l.toArray a.tmps) = true by simp [Region.wanted, hom3]]
        simp only [if_true]
        refine .inl (hes _ _ fun val w' M'' hst'' => ?_)
        have hlist' : ph (listed.setIfInBounds i true) = 1 := by
          have e1 : (listed.setIfInBounds i true).getD i false = true := by simp [hls]
          have e2 : (listed.setIfInBounds i true).getD m2 false = false := by rw [getD_set_ne false (by omega)]; exact hl2
          simp only [ph, e1, e2]
        have hbxe : ((ds.drop id).push id (.var cs)).bx = bxA 1 := by
          show (id, Box.var cs) :: (ds.drop id).bx = (id, Box.var cs) :: s0.bx
          rw [show (ds.drop id).bx = s0.bx from DS.drop_bx_drop id s _]
        refine ih _ _ w' M'' (by have := todo_set hin hls hXi; omega) (inv.set hi hin) hst''.defers (by simp [hom2, Act.put, hsz]) (fun t lv hlv => ?_) (by rw [hlist']; have := hst''.boxes; rwa [put_bx, hbxe] at this)
        rw [hlist']
        have hbx2 : (((ds.drop id).push id (.var cs)).put (some d) (.one (.ref id 0))).bx = bxA 1 := by rw [put_bx, hbxe]
        have hsl2 := hst''.slots
        rw [hbx2] at hsl2
        refine hsl2 t lv ?_
        rw [hview t] at hlv
        rw [put_get]
        rw [hdi, hom2] at hlv
        have hlen2 : ((ds.drop id).push id (.var cs)).sl.length = s0.sl.length := by simp [DS.drop, DS.push, ds, hsz]
        rw [hlen2]
        split at hlv
        · rename_i hc
          rw [if_pos ⟨hc.2.1, hc.2.2⟩, ← hlv, hvm]
        · rename_i hc
          have hlt := view_lt n hlv
          rw [if_neg (fun e => hc ⟨hin, e.1, e.2⟩)]
          simp only [DS.drop, DS.push, ds, List.map_map, List.getElem?_map]
          rw [List.getElem?_range (by rw [hsz]; exact hlt)]
          simp only [Option.map_some, Function.comp_apply, hlv, Option.getD_some, Option.some.injEq]
          rcases view_cases n hlv with hb | ⟨j, hjn, hXj, rfl⟩
          · simp only [s0, DS.drop, List.getElem?_map, Option.map_eq_some_iff] at hb
            obtain ⟨l0, _, rfl⟩ := hb
            exact LV.scrub_scrub id l0
          · have hjv : vs[j]? = some (v j) := by
              have : j < vs.length := by omega
              simp [v, List.getD, List.getElem?_eq_getElem this]
            rcases fixVals_get hv2 j _ hjv with hc2 | hc2
            · rw [Nat.zero_add] at hc2
              rcases hc2 with hc2 | hc2
              · subst hc2; rw [hXj] at hXi; cases hXi
              · rw [hwait j i hc2 hXj] at hXi; cases hXi
            · exact hc2
      by_cases him2 : i = m2
      · subst him2
        have : oS = o := Option.some.inj (hoS.symm.trans hoi')
        subst this
        have hl1 : listed.getD m false = true := by
          obtain ⟨oo, hoo, e, he, hb, hon⟩ := Region.waitsFor_spec hmm
          have : oo = oS := Option.some.inj (hoo.symm.trans hoi)
          subst this
          rw [← hon]
          exact hall e he hb
        have hp1 : ph listed = 1 := by simp only [ph, hXi, hl1]
        rw [hp1] at hslots hbx
        have hstsl : ∀ i, i ≤ n → (stT i).sl.length = s0.sl.length ∧ (stT i).bx = bxA 1 ∧ ∀ t, (stT i).sl[t]? = view dst v s0.sl (fun _ => true) i t := by
          have := st_view (l := l) (n := n) (v := v) (st := stT) fun i hi => let ⟨o, a1, a2, _⟩ := hgetT i hi; ⟨o, a1, a2⟩
          rw [hT0] at this
          exact this
        let ds : DS := ⟨(List.range a.tmps.size).map fun t => (view dst v s0.sl (fun j => listed.getD j false) n t).getD (.one .junk), bxA 1⟩
        have hds : St E M w a ds := by
          refine ⟨hdef, by simp [ds], fun t lv hlv => ?_, hbx⟩
          simp only [ds, List.getElem?_map, Option.map_eq_some_iff] at hlv
          obtain ⟨t', ht', rfl⟩ := hlv
          have := (List.getElem?_eq_some_iff.1 ht')
          obtain ⟨hlt, he⟩ := this
          simp at he
          subst he
          cases hvw : view dst v s0.sl (fun j => listed.getD j false) n t with
          | none => trivial
          | some lv => exact hslots t lv hvw
        have hlook : ∀ t ∈ oS.looksAt l.toArray, view dst v s0.sl (fun j => listed.getD j false) n t = (stT i).sl[t]? := by
          intro t ht
          rw [(hstsl i (by omega)).2.2, view_same (i := i) hXi n (fun j hj hdj => ?_) (fun j hij hjn hdj => ?_), Nat.min_eq_right (by omega)]
          · obtain ⟨oj, hoj, hdo⟩ := hdstj j t hdj
            rcases hpair j i (by omega) hin hj oj oS hoj hoi' with h1 | h1
            · obtain ⟨oo, hoo, e, he, hb, hon⟩ := Region.waitsFor_spec h1
              have : oo = oS := Option.some.inj (hoo.symm.trans hoi)
              subst this
              rw [← hon]
              exact hall e he hb
            · exact absurd ht ((Oper.apart_spec h1).1 t hdo)
          · obtain ⟨oj, hoj, hdo⟩ := hdstj j t hdj
            rcases hpair i j hin hjn hij oS oj hoi' hoj with h1 | h1
            · cases hlj : listed.getD j false with
              | false => rfl
              | true => rw [hwait j i h1 hlj] at hXi; cases hXi
            · exact absurd ht ((Oper.apart_spec h1).2.2 t hdo)
        have hev : ∀ x ∈ [x0, y0], ds.ev x = (stT i).ev x := by
          intro x hx
          cases x with
          | tmp t =>
            have ht : t ∈ oS.looksAt l.toArray := List.mem_append_left _ (List.mem_filterMap.2 ⟨.tmp t, by rw [hoS1]; simpa [Op.operands] using hx, rfl⟩)
            have h1 := hlook t ht
            simp only [DS.ev, List.getD]
            rw [← h1]
            simp only [ds, List.getElem?_map]
            by_cases hlt : t < a.tmps.size
            · rw [List.getElem?_range hlt]; simp
            · rw [List.getElem?_eq_none (by simpa using hlt)]
              cases hvw : view dst v s0.sl (fun j => listed.getD j false) n t with
              | none => rfl
              | some lv => have := view_lt n hvw; rw [← hsz] at this; exact absurd this hlt
          | const c => rfl
          | global g => rfl
          | func f => rfl
        have hst2 : eStore P ds T0 (ds.ev x0) (ds.ev y0) none = some (qS, ⟨ds.sl, sS.bx⟩) := by
          rw [hev x0 (by simp), hev y0 (by simp), hsmT]
          refine eStore_bx ?_ hst
          rw [← hsmT]
          exact ((hstsl i (by omega)).2.1).symm
        have he : estep P base oS ds none = some (qS, ⟨ds.sl, sS.bx⟩) := by
          simp only [estep, hoS1, hoS2]
          exact hst2
        have hes := estep_sound (P := P) he hqS hds hbase
        unfold wpOp
        simp only [hoi]
        rw [show Region.wanted oS (yielded l.toArray a.tmps) = true by simp [Region.wanted, hoS3]]
        simp only [if_true]
        refine .inl (hes _ _ fun val w' M'' hst'' => ?_)
        have hp2 : ph (listed.setIfInBounds i true) = 2 := by
          have e1 : (listed.setIfInBounds i true).getD i false = true := by simp [hls]
          simp only [ph, e1]
        have haa : a.put oS.dst val = a := by rw [hoS2]; rfl
        rw [haa] at hst'' ⊢
        refine ih _ _ w' M'' (by have := todo_set hin hls hXi; omega) (inv.set hi hin) hst''.defers hsz (fun t lv hlv => ?_) (by rw [hp2]; exact hst''.boxes)
        rw [hp2]
        rw [hview t, hdi, hoS2] at hlv
        rw [if_neg (by simp)] at hlv
        refine hst''.slots t lv ?_
        have hlt := view_lt n hlv
        simp only [ds, List.getElem?_map]
        rw [List.getElem?_range (by rw [hsz]; exact hlt)]
        simp only [Option.map_some, hlv, Option.getD_some]
      · obtain ⟨st, hgd, hstsl⟩ := hgood (ph listed) (hph listed)
        obtain ⟨o', ho', hgood'⟩ := hgd i hin
        have : o' = o := Option.some.inj (ho'.symm.trans hoi')
        subst this
        have hgood := hgood' (fun e => e.elim him him2)
        have hlook : ∀ t ∈ o'.looksAt l.toArray, ∀ lv, (st i).sl[t]? = some lv → LV.rel w (Av E.A0 M (bxA (ph listed))) M lv (a.tmps.getD t undef) := by
          intro t ht lv hlv
          rw [(hstsl i (by omega)).2.2] at hlv
          refine hslots t lv ?_
          rw [view_same (i := i) hXi n (fun j hj hdj => ?_) (fun j hij hjn hdj => ?_), Nat.min_eq_right (by omega)]
          · exact hlv
          · obtain ⟨oj, hoj, hdo⟩ := hdstj j t hdj
            rcases hpair j i (by omega) hin hj oj o' hoj hoi' with h1 | h1
            · obtain ⟨oo, hoo, e, he, hb, hon⟩ := Region.waitsFor_spec h1
              have : oo = o' := Option.some.inj (hoo.symm.trans hoi)
              subst this
              rw [← hon]
              exact hall e he hb
            · exact absurd ht ((Oper.apart_spec h1).1 t hdo)
          · obtain ⟨oj, hoj, hdo⟩ := hdstj j t hdj
            rcases hpair i j hin hjn hij o' oj hoi' hoj with h1 | h1
            · cases hlj : listed.getD j false with
              | false => rfl
              | true => rw [hwait j i h1 hlj] at hXi; cases hXi
            · exact absurd ht ((Oper.apart_spec h1).2.2 t hdo)
        have hszi : a.tmps.size = (st i).sl.length := by rw [hsz, (hstsl i (by omega)).1]
        have hbxi : (st i).bx = bxA (ph listed) := (hstsl i (by omega)).2.1
        have hlm : ph (listed.setIfInBounds i true) = ph listed := by simp only [ph]; rw [getD_set_ne false him, getD_set_ne false him2]
        have next : ∀ (val : Value) (w' : World), Below w.heap.size w w' → LV.rel w' (Av E.A0 M (bxA (ph listed))) M (v i) val → wpAny P .any l.toArray (Lift E Q) (f + (l.length - n)) (listed.setIfInBounds i true) (a.put o'.dst val) w' := by
          intro val w' hbel hval
          refine ih _ _ w' M (by have := todo_set hin hls hXi; omega) (inv.set hi hin) (by cases hdd : o'.dst <;> simp [Act.put, hdd, hdef]) (by cases hdd : o'.dst <;> simp [Act.put, hdd, hsz]) (fun t lv hlv => ?_) (by rw [hlm]; exact hbx.below hbel)
          rw [hlm]
          rw [hview t, hdi] at hlv
          split at hlv
          · rename_i hc
            cases hlv
            have hlt : t < a.tmps.size := by rw [hsz]; exact hc.2.2
            rw [hc.2.1]
            simpa [Act.put, hlt] using hval
          · rename_i hc
            have hold := (hslots t lv hlv).mono (Keeps.below hbel)
            have hlt := view_lt n hlv
            have hne : o'.dst ≠ some t := fun e => hc ⟨hin, e, hlt⟩
            cases hdd : o'.dst with
            | none => simpa [Act.put, hdd] using hold
            | some d =>
              have : d ≠ t := fun e => hne (by rw [hdd, e])
              simpa [Act.put, hdd, this] using hold
        unfold wpOp
        simp only [hoi]
        obtain ⟨g, pp, b, hwb, hpp, hcase⟩ := hgood
        rw [wantB_sound' (w := w) (A := Av E.A0 M (bxA (ph listed))) (M := M) hwb hpp hszi hlook]
        rcases hcase with ⟨rfl, hv⟩ | ⟨rfl, hh, sd, hpv, hsd⟩
        · simp only [Bool.false_eq_true, if_false]
          exact next undef w (Below.refl _ _) (by rw [hv]; exact ud_rel)
        · simp only [if_true]
          rw [hbxi] at hpv
          refine .inl (pval_sound (P := P) (E := E) hpv hsd hbx (fun x hx => ?_) _ _ next)
          cases x with
          | tmp t =>
            simp only [DS.ev, Act.eval]
            cases ht : (st i).sl[t]? with
            | none => simp [List.getD, ht]; trivial
            | some lv =>
              simp only [List.getD, ht, Option.getD_some]
              refine hlook t ?_ lv ht
              exact List.mem_append_left _ (List.mem_filterMap.2 ⟨.tmp t, by simpa using hx, rfl⟩)
          | const c => exact ofConst_rel c
          | global g => exact RelD.con _ rfl
          | func f => exact ⟨#[], rfl, rfl, fun j c hj => by simp at hj⟩
  have hph0 : ph (Array.replicate l.toArray.size false) = 0 := by simp only [ph, getD_replicate_false]
  have hdrew : Below w0.heap.size w0 w0.drew := (Below.refl _ _).drew
  have hst1 := hst0.below hdrew
  have hrep : todo n (Array.replicate l.toArray.size false) = n := by
    unfold todo
    have : ((List.range n).filter fun i => !(Array.replicate l.toArray.size false).getD i false) = List.range n := by
      rw [List.filter_eq_self]
      intro k _
      rw [getD_replicate_false]; rfl
    rw [this]; simp
  have := head n (Array.replicate l.toArray.size false) a0 w0.drew M0 hrep
    ⟨by simp, fun j oj _ hl => (by rw [getD_replicate_false] at hl; cases hl), fun t _ ht => getD_in (by simpa using ht) (getD_replicate_false _ _)⟩ hst1.defers hst1.size (fun t lv hlv => by
      rw [hph0]
      refine hst1.slots t lv ?_
      have : ∀ k, view dst v s0.sl (fun j => (Array.replicate l.toArray.size false).getD j false) k t = s0.sl[t]? := by
        intro k
        induction k with
        | zero => rfl
        | succ k ih => simp only [view]; rw [ih]; simp only [getD_replicate_false]; simp
      rw [← this n]; exact hlv) (by rw [hph0]; exact hst1.boxes)
  rw [show n + (l.length - n) = l.toArray.size by simp; omega] at this
  exact this


def wayDS (P : Program) (base : Nat) (l : List Oper) (n m m2 d : Nat) (t T0 : TypeId) (x0 y0 : Operand) (hs : List Hint) (live dead : List Nat) (s : DS) : Option (Prop × DS) :=
  (dexecDrawS P base l n m m2 d t T0 x0 y0 hs s).map fun r => (r.1, r.2.2.2.2.prune live dead)

theorem T_regDS {base rid : Nat} {l : List Oper} {Q : DX → DS → Prop} {s : DS} (n m m2 d : Nat) (t0 T0 : TypeId) (x0 y0 : Operand) (hs : List Hint) (live dead : List Nat) (s' : DS) (side : Prop) (hm : P.follows .mixedOrders = true) (hok : drawOk l.toArray n = true)
    (hmn : Nat.blt m2 n = true) (hmm : Region.waitsFor .any l.toArray m2 m = true) (hlt0 : Nat.blt m m2 = true) (hop : (l[m]?).map (fun o => (o.op, o.dst, o.guard)) = some (.alloc t0, some d, none)) (hop2 : (l[m2]?).map (fun o => (o.op, o.dst, o.guard)) = some (.store T0 x0 y0, none, none))
    (h : wayDS P base l n m m2 d t0 T0 x0 y0 hs live dead s = some (side, s'))
    (hv : (dexecDrawS P base l n m m2 d t0 T0 x0 y0 hs s).map (fun r => (r.2.1, r.2.1, fixVals l.toArray m (base + d) 0 r.2.1)) = (dexecDrawS P base l n m m2 d t0 T0 x0 y0 hs s).map (fun r => (r.2.2.1, r.2.2.2.1, r.2.1)))
    (hside : side) {y : Code} (hq : T P base y Q s') : T P base (.seq (.region rid l.toArray true) y) Q s := by
  unfold wayDS at h
  simp only [Option.map_eq_some_iff, Prod.mk.injEq] at h
  obtain ⟨⟨sd, v1, v2, v3, s1⟩, h1, rfl, rfl⟩ := h
  exact T_seq (T_drawS n m m2 d t0 T0 x0 y0 hs s1 sd hm hok hmn hmm hlt0 hop hop2 (by rw [h1]; rfl) hv hside (T_le (DS.le_prune s1 live dead) hq))
theorem Ret.to {f : FuncId} {ds : List D} {d d' : D} (h : Ret P f ds d) (e : d = d') : Ret P f ds d' := e ▸ h
end
end Go.DL

/-
  The bridge from the data-level framework to a law's row: what an argument of a given type reads as, and what a returned bool says. Generic in the program; no condition.
-/
set_option linter.unusedVariables false
set_option linter.unusedSimpArgs false
namespace Go.DL
open Go.RowKit Go.ChangeShapes Go.WideShapes

/-- Whatever is read at type t, in any world, stands for a datum of α, laid as cells; Good is what the law of sizes says of it. -/
def Dec (P : Program) (t : TypeId) {α : Type} (cells : α → List D) (Good : α → Prop) : Prop :=
  ∀ (H : Type) (enc : TypeId × Value → H) (w : World) (fuel : Nat) (cs : List Value) (d : DataW H) (ps : List MemPlace), DataW.trod enc P w 0 (fun _ => true) true fuel t cs = some (d, ps) →
    ∃ a : α, cs.length = (cells a).length ∧ (∀ (j : Nat) (c : D), (cells a)[j]? = some c → ∃ v, cs[j]? = some v ∧ RelD w (fun _ => False) c v) ∧ ((∀ n ∈ d.weights P t, n ≤ reachBytes) → Good a)

/-- The same of the fields of a struct, from a place on. -/
def DecFs (P : Program) (off : Nat) (L : List (TypeId × Nat)) {α : Type} (cells : α → List D) (Good : α → Prop) : Prop :=
  ∀ (H : Type) (enc : TypeId × Value → H) (w : World) (n : Nat) (cs : List Value) (xs : List (DataW H × List MemPlace)), xs.length = L.length →
    (∀ (i : Nat) (t : TypeId) (o : Nat), L[i]? = some (t, o) → DataW.trod enc P w 0 (fun _ => true) true n t ((cs.drop o).take (P.cellsOf t)) = xs[i]?) →
    ∃ a : α, (∀ (j : Nat) (c : D), (cells a)[j]? = some c → ∃ v, cs[off + j]? = some v ∧ RelD w (fun _ => False) c v) ∧ ((∀ m ∈ DataW.weightsEach P (L.map (·.1)) (xs.map (·.1)), m ≤ reachBytes) → Good a)

def fieldsOf (P : Program) (t : TypeId) : Option (List (TypeId × Nat)) :=
  match P.underlying t with
  | some (.struct fs) => some (fs.toList.map fun f => (f.type, f.offset))
  | _ => none

section
variable {P : Program}

theorem Dec.map {t : TypeId} {α β : Type} {cells : α → List D} {Good : α → Prop} (h : Dec P t cells Good) (f : α → β) (cells' : β → List D) (Good' : β → Prop) (hc : ∀ a, cells' (f a) = cells a) (hg : ∀ a, Good a → Good' (f a)) : Dec P t cells' Good' := by
  intro H enc w fuel cs d ps hd
  obtain ⟨a, h1, h2, h3⟩ := h H enc w fuel cs d ps hd
  exact ⟨f a, by rw [hc]; exact h1, by rw [hc]; exact h2, fun hw => hg a (h3 hw)⟩

theorem one_get {w : World} {A : Nat → Prop} {d : D} {v : Value} (h : RelD w A d v) : ∀ (j : Nat) (c : D), [d][j]? = some c → ∃ u, [v][j]? = some u ∧ RelD w A c u := by
  intro j c hj
  cases j with
  | zero => simp at hj; subst hj; exact ⟨v, rfl, h⟩
  | succ j => simp at hj

theorem Dec.int {t : TypeId} {k : IntKind} (ht : P.underlying t = some (.int k)) : Dec P t (fun n : Int => [.int k n]) (fun n => (Lit.int k n).wf = true) := by
  intro H enc w fuel cs d ps hd
  obtain ⟨n, rfl, _, hwf⟩ := DataW.trod_int ht hd
  exact ⟨n, rfl, one_get (.int _ _), fun _ => hwf⟩

theorem Dec.bool {t : TypeId} (ht : P.underlying t = some .bool) : Dec P t (fun b : Bool => [.bool b]) (fun _ => True) := by
  intro H enc w fuel cs d ps hd
  obtain ⟨b, rfl, _⟩ := DataW.trod_bool ht hd
  exact ⟨b, rfl, one_get (.bool _), fun _ => trivial⟩

theorem DecFs.nil (off : Nat) : DecFs P off [] (fun _ : Unit => []) (fun _ => True) :=
  fun _ _ _ _ _ _ _ _ => ⟨(), by simp, fun _ => trivial⟩

theorem DecFs.cons {off : Nat} {t : TypeId} {L : List (TypeId × Nat)} {α β : Type} {ct : α → List D} {Gt : α → Prop} {cells : β → List D} {Good : β → Prop} (sz : Nat) (hsz : P.cellsOf t = sz) (h1 : Dec P t ct Gt) (hc : ∀ a, (ct a).length = sz)
    (h2 : DecFs P (off + sz) L cells Good) : DecFs P off ((t, off) :: L) (fun p : α × β => ct p.1 ++ cells p.2) (fun p => Gt p.1 ∧ Good p.2) := by
  intro H enc w n cs xs hl hx
  cases xs with
  | nil => simp at hl
  | cons x xs =>
    obtain ⟨d, ps⟩ := x
    have h0 := hx 0 t off rfl
    simp only [List.getElem?_cons_zero] at h0
    obtain ⟨a, g1, g2, g3⟩ := h1 H enc w n _ d ps h0
    obtain ⟨b, k1, k2⟩ := h2 H enc w n cs xs (by simpa using hl) (fun i t' o hi => by simpa using hx (i + 1) t' o (by simpa using hi))
    refine ⟨(a, b), fun j c hj => ?_, fun hw => ⟨g3 fun m hm => hw m ?_, k2 fun m hm => hw m ?_⟩⟩
    · simp only [List.getElem?_append, hc] at hj
      split at hj
      · obtain ⟨v, hv, hr⟩ := g2 j c hj
        refine ⟨v, ?_, hr⟩
        rw [List.getElem?_take] at hv
        split at hv
        · rwa [List.getElem?_drop] at hv
        · cases hv
      · obtain ⟨v, hv, hr⟩ := k1 _ c hj
        exact ⟨v, by rw [← hv]; congr 1; omega, hr⟩
    · simp only [List.map_cons, DataW.weightsEach]
      exact List.mem_append_left _ hm
    · simp only [List.map_cons, DataW.weightsEach]
      exact List.mem_append_right _ hm

theorem Dec.struct {t : TypeId} {L : List (TypeId × Nat)} {α : Type} {cells : α → List D} {Good : α → Prop} (sz : Nat) (hsz : P.cellsOf t = sz) (hf : fieldsOf P t = some L) (h : DecFs P 0 L cells Good) (hc : ∀ a, (cells a).length = sz) : Dec P t cells Good := by
  intro H enc w fuel cs d ps hd
  unfold fieldsOf at hf
  split at hf
  · rename_i fs ht
    simp only [Option.some.injEq] at hf
    obtain ⟨xs, n, _, hx, hlen, hxl, hall⟩ := DataW.trod_struct ht hd
    obtain ⟨a, h1, h2⟩ := h H enc w n cs xs (by rw [← hf]; simpa using hxl) (fun i t' o hi => by
      rw [← hf, List.getElem?_map, Option.map_eq_some_iff] at hi
      obtain ⟨f, hfi, he⟩ := hi
      cases he
      exact hall i f (by simpa using hfi))
    refine ⟨a, by rw [hlen, hsz, hc], fun j c hj => by simpa using h1 j c hj, fun hw => h2 fun m hm => hw m ?_⟩
    have : d = .agg (xs.map (·.1)) := congrArg Prod.fst hx
    rw [this]
    simp only [DataW.weights, ht]
    rw [← hf, List.map_map] at hm
    exact hm
  · cases hf

theorem weightsAll_mem {H : Type} {e : TypeId} {x : DataW H} {m : Nat} : ∀ {l : List (DataW H)}, x ∈ l → m ∈ x.weights P e → m ∈ DataW.weightsAll P e l
  | y :: l, hx, hm => by
    simp only [DataW.weightsAll, List.mem_append]
    rcases List.mem_cons.1 hx with rfl | hx
    · exact .inl hm
    · exact .inr (weightsAll_mem hx hm)

theorem flat_split {sz : Nat} (hpos : 0 < sz) : ∀ {es : List D} {j : Nat} {c : D}, (∀ e ∈ es, e.cells.length = sz) → (flat es)[j]? = some c → ∃ e, es[j / sz]? = some e ∧ e.cells[j % sz]? = some c
  | [], j, c, _, h => by simp [flat] at h
  | e :: es, j, c, hu, h => by
    have he := hu e List.mem_cons_self
    simp only [flat, List.flatMap_cons, List.getElem?_append, he] at h
    split at h
    · rename_i hlt
      exact ⟨e, by rw [Nat.div_eq_of_lt hlt]; rfl, by rw [Nat.mod_eq_of_lt hlt]; exact h⟩
    · rename_i hge
      obtain ⟨e', h1, h2⟩ := flat_split hpos (fun x hx => hu x (List.mem_cons_of_mem _ hx)) (show (flat es)[j - sz]? = some c from h)
      have hd : j / sz = (j - sz) / sz + 1 := by
        rw [← Nat.sub_add_cancel (Nat.le_of_not_lt hge), Nat.add_div_right _ hpos, Nat.add_sub_cancel]
      have hm : j % sz = (j - sz) % sz := by
        conv => lhs; rw [← Nat.sub_add_cancel (Nat.le_of_not_lt hge)]
        exact Nat.add_mod_right _ _
      exact ⟨e', by rw [hd]; simpa using h1, by rw [hm]; exact h2⟩

theorem Dec.slice {t e : TypeId} {α : Type} {cells : α → List D} {Good : α → Prop} (ht : P.underlying t = some (.slice e)) (sz bytes : Nat) (hsz : P.cellsOf e = sz) (hby : P.bytesOf e = bytes) (hpos : 0 < sz) (h : Dec P e cells Good) (enc : α → D)
    (hce : ∀ a, (enc a).cells = cells a) (hlen : ∀ a, (cells a).length = sz) : Dec P t (fun l : List α => [.sl sz (l.map enc)]) (fun l => l.length * bytes ≤ reachBytes ∧ ∀ a ∈ l, Good a) := by
  intro H en w fuel cs d ps hd
  rcases Go.Deep.open_slice ht hd with ⟨rfl, hx⟩ | ⟨a, len, cap, m, n, Dd, Pl, rfl, _, hlc, hcm, hm, hx, hel⟩
  · refine ⟨[], rfl, one_get (.sl0 sz none 0 fun _ => rfl), fun _ => ⟨by simp, by simp⟩⟩
  · simp only [if_true] at hm
    subst hm
    have hall : ∀ i : Fin len, ∃ b : α, ∃ cs' : List Value, w.cells? 0 (a.add (i.1 * sz)) sz = some cs' ∧ cs'.length = sz ∧
        (∀ (j : Nat) (c : D), (cells b)[j]? = some c → ∃ v, cs'[j]? = some v ∧ RelD w (fun _ => False) c v) ∧ ((∀ n ∈ (Dd i.1).weights P e, n ≤ reachBytes) → Good b) := by
      intro i
      obtain ⟨cs', h1, h2⟩ := hel i.1 (by omega)
      rw [hsz] at h1
      obtain ⟨b, g1, g2, g3⟩ := h H en w n cs' _ _ h2
      exact ⟨b, cs', h1, by rw [g1, hlen], g2, g3⟩
    let f : Fin len → α := fun i => Classical.choose (hall i)
    have hf : ∀ i : Fin len, ∃ cs' : List Value, w.cells? 0 (a.add (i.1 * sz)) sz = some cs' ∧ cs'.length = sz ∧
        (∀ (j : Nat) (c : D), (cells (f i))[j]? = some c → ∃ v, cs'[j]? = some v ∧ RelD w (fun _ => False) c v) ∧ ((∀ n ∈ (Dd i.1).weights P e, n ≤ reachBytes) → Good (f i)) := fun i => Classical.choose_spec (hall i)
    have hll : (List.ofFn f).length = len := by simp
    have hw : (∀ n ∈ d.weights P t, n ≤ reachBytes) → (List.ofFn f).length * bytes ≤ reachBytes ∧ ∀ b ∈ List.ofFn f, Good b := by
      intro hw
      have hd' : d = .slice ((List.range len).map Dd) ((List.range (m - len)).map fun j => Dd (len + j)) := congrArg Prod.fst hx
      rw [hd'] at hw
      simp only [DataW.weights, ht] at hw
      refine ⟨?_, fun b hb => ?_⟩
      · have := hw _ List.mem_cons_self
        simp only [List.length_map, List.length_range, hby] at this
        rw [hll]
        exact Nat.le_trans (Nat.mul_le_mul_right _ (by omega)) this
      · obtain ⟨i, hi⟩ := List.mem_ofFn.1 hb
        obtain ⟨cs', _, _, _, g⟩ := hf i
        rw [← hi]
        refine g fun n hn => hw n (List.mem_cons_of_mem _ (List.mem_append_left _ (weightsAll_mem (x := Dd i.1) (List.mem_map.2 ⟨i.1, by simp, rfl⟩) hn)))
    refine ⟨List.ofFn f, rfl, one_get ?_, hw⟩
    have huni : ∀ x ∈ (List.ofFn f).map enc, x.cells.length = sz := by
      intro x hx
      obtain ⟨b, _, rfl⟩ := List.mem_map.1 hx
      rw [hce, hlen]
    by_cases h0 : len = 0
    · subst h0
      have : (List.ofFn f).map enc = [] := by simp
      rw [this]
      exact .sl0 sz (some a) m (fun h => by cases h)
    · have hspot : a.spot = none := by
        obtain ⟨cs', h1, h2, _⟩ := hf ⟨0, by omega⟩
        obtain ⟨_, _, h3⟩ := World.cells?_some h1
        have := h3 0 hpos
        have hc0 : cs'[0]? = some cs'[0] := List.getElem?_eq_getElem (by omega)
        rw [hc0] at this
        simp only [Nat.zero_mul] at this
        simp only [Addr.add, if_true] at this
        unfold World.cell? at this
        split at this
        · split at this
          · cases this
          · rename_i hs; simpa using hs
        · cases this
      have haddr : ∀ k, a.add k = ⟨a.block, a.off + k, none⟩ := by
        intro k
        unfold Addr.add
        split
        · rename_i hk; subst hk; cases a; simp at hspot; subst hspot; rfl
        · rfl
      have key : ∀ (j : Nat) (c : D), (flat ((List.ofFn f).map enc))[j]? = some c → ∃ v, w.cell? ⟨a.block, a.off + j, none⟩ = some v ∧ RelD w (fun _ => False) c v := by
        intro j c hj
        obtain ⟨x, h1, h2⟩ := flat_split hpos huni hj
        rw [List.getElem?_map, Option.map_eq_some_iff] at h1
        obtain ⟨b, hb, rfl⟩ := h1
        obtain ⟨hlt, he⟩ := List.getElem?_eq_some_iff.1 hb
        rw [List.getElem_ofFn] at he
        rw [hll] at hlt
        obtain ⟨cs', g1, g2, g3, _⟩ := hf ⟨j / sz, hlt⟩
        rw [hce, ← he] at h2
        obtain ⟨v, hv, hr⟩ := g3 _ c h2
        refine ⟨v, ?_, hr⟩
        obtain ⟨_, _, g4⟩ := World.cells?_some g1
        have g5 := g4 (j % sz) (Nat.mod_lt _ hpos)
        rw [Go.Deep.add_add, haddr, hv, Nat.div_add_mod' j sz] at g5
        exact g5
      have hsa : a = ⟨a.block, a.off, none⟩ := by cases a; simp at hspot; subst hspot; rfl
      have hlm : ((List.ofFn f).map enc).length = len := by simp
      rw [hsa]
      have := RelD.sl (w := w) (A := fun _ => False) sz ((List.ofFn f).map enc) a.block a.off m (fun j => (w.cell? ⟨a.block, a.off + j, none⟩).getD undef) (by rw [hlm]; exact hlc) huni
        (fun j c hj => by obtain ⟨v, hv, _⟩ := key j c hj; exact ⟨fun h => h, by rw [hv]; rfl⟩) (fun j c hj => by obtain ⟨v, hv, hr⟩ := key j c hj; rw [hv]; exact hr)
      rwa [hlm] at this

/-! ### arguments -/
theorem arg_one {H : Type} {enc : TypeId × Value → H} {W : World} {base : Nat} {t : TypeId} {v : Value} {d : DataW H} {ps : List MemPlace} {α : Type} {cell : α → D} {Good : α → Prop} (h : Dec P t (fun a => [cell a]) Good) (hd : DataW.Trod enc P W 0 (fun _ => true) true t v d ps)
    (hok : Value.okWide P W .any base t v) (hno : ∀ arr, ¬ Value.okWide P W .any base t (.agg arr)) : ∃ a, RelD W (fun _ => False) (cell a) v ∧ ((∀ n ∈ d.weights P t, n ≤ reachBytes) → Good a) := by
  obtain ⟨fuel, hf⟩ := hd
  obtain ⟨a, h1, h2, h3⟩ := h H enc W fuel _ d ps hf
  obtain ⟨u, hu, hr⟩ := h2 0 (cell a) rfl
  have : v.cells = #[v] := by cases v <;> first | rfl | exact absurd hok (hno _)
  rw [this] at hu
  simp at hu
  subst hu
  exact ⟨a, hr, h3⟩

theorem arg_agg {H : Type} {enc : TypeId × Value → H} {W : World} {base : Nat} {t : TypeId} {v : Value} {d : DataW H} {ps : List MemPlace} {α : Type} {cells : α → List D} {Good : α → Prop} (h : Dec P t cells Good) (hd : DataW.Trod enc P W 0 (fun _ => true) true t v d ps)
    (hok : Value.okWide P W .any base t v) (hs : (fieldsOf P t).isSome = true) : ∃ a, RelD W (fun _ => False) (.agg (cells a)) v ∧ ((∀ n ∈ d.weights P t, n ≤ reachBytes) → Good a) := by
  obtain ⟨fuel, hf⟩ := hd
  obtain ⟨a, h1, h2, h3⟩ := h H enc W fuel _ d ps hf
  have : ∃ cs, v = .agg cs := by
    unfold fieldsOf at hs
    split at hs
    · rename_i fs ht
      simp only [Value.okWide, ht] at hok
      obtain ⟨cs, rfl, _⟩ := hok
      exact ⟨cs, rfl⟩
    · cases hs
  obtain ⟨cs, rfl⟩ := this
  simp only [Value.cells] at h1 h2
  refine ⟨a, .agg _ cs (by simpa using h1) (fun j => cs.getD j undef) (fun j c hj => ?_) (fun j c hj => ?_), h3⟩
  · obtain ⟨u, hu, _⟩ := h2 j c hj
    have : cs[j]? = some u := by simpa using hu
    simp [this]
  · obtain ⟨u, hu, hr⟩ := h2 j c hj
    have : cs[j]? = some u := by simpa using hu
    simpa [this] using hr

theorem no_agg_int {W : World} {base : Nat} {t : TypeId} {k : IntKind} (ht : P.underlying t = some (.int k)) : ∀ arr, ¬ Value.okWide P W .any base t (.agg arr) := by
  intro arr h; simp [Value.okWide, ht, Cell.okWide, Cell.ok] at h
theorem no_agg_bool {W : World} {base : Nat} {t : TypeId} (ht : P.underlying t = some .bool) : ∀ arr, ¬ Value.okWide P W .any base t (.agg arr) := by
  intro arr h; simp [Value.okWide, ht, Cell.okWide, Cell.ok] at h
theorem no_agg_slice {W : World} {base : Nat} {t e : TypeId} (ht : P.underlying t = some (.slice e)) : ∀ arr, ¬ Value.okWide P W .any base t (.agg arr) := by
  intro arr h; simp [Value.okWide, ht, Cell.okWide, Cell.ok] at h
end
end Go.DL

/-
  The bridge, second part: a call that returns true and changes nothing that was there answers a law's row. Generic in the program; no condition.
-/
set_option linter.unusedVariables false
set_option linter.unusedSimpArgs false
namespace Go.DL
open Go.RowKit Go.ChangeShapes Go.WideShapes

section
variable {P : Program}

theorem trodAll_stay {H : Type} {enc : TypeId × Value → H} {W W' : World} {sp : Nat → Bool} (hl : laidOutB P = true) : ∀ {ts : List TypeId} {vs : List Value} {ds : List (DataW H)} {ps : List MemPlace},
    DataW.TrodAll enc P W 0 (fun _ => true) true ts vs ds ps → (∀ t ∈ ts, P.readableRec t = true ∧ t < P.types.size) → (∀ p ∈ ps, W.sameAt W' p) → (∀ p ∈ ps, sp p.block = true) → DataW.TrodAll enc P W' 0 sp true ts vs ds ps
  | [], _, _, _, h, _, _, _ => by
    obtain ⟨rfl, rfl, rfl⟩ := trodAll_nil h
    exact trodAll_mk0
  | t :: ts, _, _, _, h, hr, hs, hp => by
    obtain ⟨v, vs, d, ds, a, b, rfl, rfl, rfl, h1, h2⟩ := trodAll_cons h
    exact ⟨a, b, WideElems.Trod_stays hl (hr t List.mem_cons_self).1 (hr t List.mem_cons_self).2 h1 (fun x hx => hs x (List.mem_append_left _ hx)) (fun x hx => hp x (List.mem_append_left _ hx)),
      trodAll_stay hl h2 (fun t ht => hr t (List.mem_cons_of_mem _ ht)) (fun x hx => hs x (List.mem_append_right _ hx)) (fun x hx => hp x (List.mem_append_right _ hx)), rfl⟩

theorem law_call {H : Type} {enc : TypeId × Value → H} {f : FuncId} {fn : Func} {s : ChangeSpec} {apart fresh handsOn : Bool} {W : World} {args : Array Value} {ds gs : List (DataW H)} {before : List MemPlace}
    (hW : DataW.Whole enc P fn.params.toList s.vars apart W args.toList ds gs before) (hl : laidOutB P = true) (hrec : ∀ t ∈ fn.params.toList, P.readableRec t = true ∧ t < P.types.size) (tb : TypeId) (hrt : fn.resultTypes = #[tb]) (htb : P.underlying tb = some .bool)
    (hv : s.vars = []) (hspec : s.fn H ds = { results := [.lit (.bool true)], args := ds }) (Ds : List D) (hlen : args.size = Ds.length) (hrel : ∀ (j : Nat) (c : D), Ds[j]? = some c → ∃ u, args[j]? = some u ∧ RelD W (fun _ => False) c u) (hret : Ret P f Ds (.bool true)) :
    Calls P f args W fun e W' => ∃ v, e = .returned v ∧ s.post enc P fn apart fresh handsOn false W args v W' := by
  refine (hret.2 W (fun _ => False) args (fun _ h => h.elim) hlen hrel).mono ?_
  rintro e W' ⟨v, rfl, hb, hr⟩
  have hvt : v = .bool true := relD_bool hr
  subst hvt
  have hlt := hW.lt
  have hW' := hW
  obtain ⟨p, q, hA, hV, rfl, hfz, hnd⟩ := hW
  rw [hv] at hV
  obtain ⟨rfl, rfl⟩ := trodVars_none hV
  rw [List.append_nil] at hW' hlt
  have hold : ∀ x ∈ p, (fun b => decide (b < W.heap.size)) x.block = true := fun x hx => by simpa using hlt x hx
  refine ⟨.bool true, rfl, ds, [], p, [], p, [], hW', ?_, ?_, ?_, ?_, fun h => by cases h⟩
  · rw [List.append_nil, hspec, hrt]
    exact trodAll_mk1 (shut_bool htb true)
  · rw [List.append_nil, hspec]
    exact trodAll_stay hl hA hrec (fun x hx => hb.same (hlt x hx)) hold
  · rw [List.append_nil, hspec, hv]
    exact rfl
  · exact hb.frame _
end
end Go.DL

/-
  The data-level framework, second series, part a: ranges over functions: a round's code, an iterator's contract, the statement. Generic in the program; no condition.
-/
set_option linter.unusedVariables false
set_option linter.unusedSimpArgs false
namespace Go.DL
open Go.RowKit

/-- The fence of a round of the loop with record r. -/
abbrev WR (r : Nat) : Fence := Fence.wide.inRound r

def noDefer (l : List Oper) : Bool := l.all fun o => match o.op with | .defer _ => false | _ => true

section
variable {P : Program} {base : Nat} {Q : DX → DS → Prop} {s : DS}

theorem no_out {E : Env} : ¬ LetsOut (Lift E Q) := by
  rintro ⟨a, w, E', _, x, s, M, hx, _⟩
  cases x <;> exact hx

theorem op_in {r n : Nat} {o : Oper} (hd : ∀ c, o.op ≠ .defer c) {R : Exit → Act → World → Prop} {K K' : Act → World → Prop} {a : Act} {w : World} (hK : ∀ a w, K a w → K' a w)
    (h : o.wp P a w K R) : o.wpIn (WR r) n P a w K' R := by
  refine ⟨fun _ _ => trivial, ?_⟩
  rw [Oper.semAt_eq _ _ _ hd]
  unfold Oper.wp at h
  cases hr : (execOp a.eval o).run P w with
  | ok v w' =>
    rw [hr] at h
    cases v with
    | value v => exact hK _ _ h
    | skip => exact hK _ _ h
    | defer d => exact hK _ _ h
    | enter f args =>
      refine ⟨(fun e => by cases e), CallsIn.inRound r (callsIn_wide.2 (Calls.mono h ?_))⟩
      intro e w2 h2
      cases e with
      | returned v => exact hK _ _ h2
      | panicked ch => exact h2
      | outgrown => exact h2
    | row row args =>
      refine ⟨(fun e => by cases e), fun c cs _ => ?_⟩
      obtain ⟨v, w2, h1, h2⟩ := h c cs
      exact ⟨v, w2, hK _ _ h1, stepsIn_wide.2 h2⟩
    | _ => exact h.elim
  | halt st w' =>
    rw [hr] at h
    cases st <;> first | exact h | exact h.elim

theorem list_in {r n : Nat} {ops : Array Oper} {R : Exit → Act → World → Prop} (hno : ¬ LetsOut R) : ∀ (l : List Oper) (a : Act) (w : World), noDefer l = true → wpList P ops R l a w → wpListIn (WR r) n P ops R l a w
  | [], _, _, _, h => h
  | o :: l, a, w, hd, h => by
    simp only [noDefer, List.all_cons, Bool.and_eq_true] at hd
    have ho : ∀ c, o.op ≠ .defer c := fun c e => by rw [e] at hd; simp at hd
    unfold wpList at h
    unfold wpListIn
    split at h
    · rename_i hw
      rw [if_pos hw]
      rcases h with h | h
      · exact op_in ho (fun a' w' h' => list_in hno l a' w' hd.2 h') h
      · exact absurd h.2 hno
    · rename_i hw
      rw [if_neg hw]
      exact ⟨fun _ _ => trivial, list_in hno l _ w hd.2 h⟩

/-- The triple of code that runs in a round. -/
def TI (P : Program) (r base : Nat) (c : Code) (Q : DX → DS → Prop) (s : DS) : Prop :=
  ∀ (E : Env) (M : BMap) (w : World) (a : Act), E.base = base → St E M w a s → c.wpIn (WR r) 0 P (Lift E Q) a w

theorem TI_region {r id : Nat} {l : List Oper} (hd : noDefer l = true) (h : TL P base l.toArray l Q s) : TI P r base (.region id l.toArray false) Q s :=
  fun E M w a hb hst => wpIn_region_lit (list_in no_out l a w hd (h E M w a hb hst))

theorem TI_skip {r : Nat} (h : Q .normal s) : TI P r base .skip Q s :=
  fun E M w a _ hs => wpIn_skip ⟨E, EnvExt.refl E, .normal, s, M, trivial, h, hs⟩

theorem TI_seq {r : Nat} {x y : Code} (h : TI P r base x (DX.andThen (TI P r base y Q) Q) s) : TI P r base (.seq x y) Q s := by
  intro E M w a hb hs
  refine wpIn_seq (wpIn_mono (h E M w a hb hs) ?_)
  rintro e a' w' ⟨E1, hext, dx, s', M', hx, hq, hst⟩
  cases dx with
  | normal =>
    cases e <;> simp only [XRel] at hx
    exact wpIn_mono (hq E1 M' w' a' (hext.base.trans hb) hst) fun _ _ _ => Lift.ext hext
  | exit id =>
    cases e <;> simp only [XRel] at hx
    exact ⟨E1, hext, .exit id, s', M', hx, hq, hst⟩
  | ret =>
    cases e <;> simp only [XRel] at hx
    exact ⟨E1, hext, .ret, s', M', trivial, hq, hst⟩
  | panic d =>
    cases e <;> simp only [XRel] at hx
    exact ⟨E1, hext, .panic d, s', M', hx, hq, hst⟩

theorem TI_le {r : Nat} {s' : DS} {c : Code} (hle : s.Le s') (h : TI P r base c Q s') : TI P r base c Q s :=
  fun E M w a hb hs => let ⟨M', hs'⟩ := hle E M w a hs; h E M' w a hb hs'

/-- The environment of code that is entered with all boxes of a state. -/
def Env.within (E : Env) (M : BMap) (w : World) (bx : List (Nat × Box)) (base' : Nat) (ms : List (Deferred × Nat)) : Env :=
  ⟨w, E.A0, base', M, fun k => ∃ p ∈ bx, boxBlk M p = some k, fun i => i ∈ bx.map (·.1), ms⟩

theorem Boxes.within {E : Env} {M : BMap} {w : World} {bx : List (Nat × Box)} (h : Boxes E M w bx) (base' : Nat) (ms : List (Deferred × Nat)) : Boxes (E.within M w bx base' ms) M w bx where
  ok := h.ok
  ids := h.ids
  blks := h.blks
  new := fun p hp k hk => ⟨.inl ⟨p, hp, hk⟩, (h.new p hp k hk).2⟩
  foreign := fun b hb => by
    have h1 := h.foreign b hb
    refine ⟨Nat.lt_of_lt_of_le h1.1 h.frame.size, fun ⟨p, hp, hk⟩ => ?_⟩
    rcases (h.new p hp b hk).1 with h2 | h2
    · exact h1.2 h2
    · have := h1.1; omega
  frame := Fr.refl _ _
  old := fun p hp _ => ⟨List.mem_map.2 ⟨p, hp, rfl⟩, rfl, rfl, rfl⟩

/-- What the code that was entered so makes of the caller's state. -/
theorem St.call {E : Env} {M M' : BMap} {w w' : World} {a : Act} {s : DS} {bx' : List (Nat × Box)} {base' : Nat} {ms : List (Deferred × Nat)} (hst : St E M w a s) (hbase : E.base ≤ base') (hb : Boxes (E.within M w s.bx base' ms) M' w' bx') :
    St E M' w' a (s.back bx' base') := by
  have hO : ∀ k, (E.within M w s.bx base' ms).O k → (E.O k ∨ E.w0.heap.size ≤ k) ∧ k < w.heap.size := fun k ⟨p, hp, hk⟩ => hst.boxes.new p hp k hk
  have hFr : Fr E.O E.w0 w' := by
    have h1 := hb.frame
    have h2 := hst.boxes.frame
    refine ⟨h1.os.trans h2.os, h1.tape.trans h2.tape, h1.output.trans h2.output, Nat.le_trans h2.size h1.size, fun k hk hok => ?_⟩
    refine (h1.block k (Nat.lt_of_lt_of_le hk h2.size) fun hob => ?_).trans (h2.block k hk hok)
    rcases (hO k hob).1 with h3 | h3
    · exact hok h3
    · omega
  have hBox : Boxes E M' w' bx' := {
    ok := hb.ok
    ids := hb.ids
    blks := hb.blks
    new := fun p hp k hk => by
      obtain ⟨h1, h2⟩ := hb.new p hp k hk
      refine ⟨?_, h2⟩
      rcases h1 with h1 | h1
      · exact (hO k h1).1
      · exact .inr (Nat.le_trans hst.boxes.frame.size h1)
    foreign := hst.boxes.foreign
    frame := hFr
    old := fun p hp hlt => by
      obtain ⟨h1, h2, h3, h4⟩ := hb.old p hp (Nat.lt_of_lt_of_le hlt hbase)
      obtain ⟨p0, hp0, he⟩ := List.mem_map.1 h1
      have := hst.boxes.old p0 hp0 (by rw [he]; exact hlt)
      rw [he] at this
      obtain ⟨g1, g2, g3, g4⟩ := this
      exact ⟨g1, h2.trans g2, h3.trans g3, h4.trans g4⟩ }
  have hKeeps : Keeps w (Av E.A0 M s.bx) w' (Av E.A0 M' bx') := by
    intro b off u h1 h2
    have hlt := World.block_lt_of_cell? w ⟨b, off, none⟩ h2
    have hnO : ¬ (E.within M w s.bx base' ms).O b := fun hob => h1 (.inr hob)
    refine ⟨fun h3 => ?_, ?_⟩
    · rcases h3 with h3 | ⟨p, hp, hk⟩
      · exact h1 (.inl h3)
      · rcases (hb.new p hp b hk).1 with h4 | h4
        · exact hnO h4
        · exact absurd hlt (Nat.not_lt.2 h4)
    · rw [World.cell?_of_block (hb.frame.block b hlt hnO)]; exact h2
  have hlive : ∀ i, liveIn bx' base' i = true → M'.blk i = M.blk i ∧ M'.rv i = M.rv i ∧ M'.sz i = M.sz i := by
    intro i hi
    simp only [liveIn, Bool.and_eq_true, List.any_eq_true, beq_iff_eq] at hi
    obtain ⟨h1, p, hp, he⟩ := hi
    have hlt : i < base' := by simpa [Nat.blt_eq] using h1
    obtain ⟨_, h2, h3, h4⟩ := hb.old p hp (by rw [he]; exact hlt)
    rw [he] at h2 h3 h4
    exact ⟨h2, h3, h4⟩
  refine ⟨hst.defers, by simp [DS.back, hst.size], fun t l hl => ?_, hBox⟩
  simp only [DS.back, List.getElem?_map, Option.map_eq_some_iff] at hl
  obtain ⟨l', hl', rfl⟩ := hl
  exact LV.keep_rel hlive ((hst.slots t l' hl').mono hKeeps)

theorem box_cells {E : Env} {M : BMap} {w : World} {bx : List (Nat × Box)} (h : Boxes E M w bx) {p : Nat × Box} (hp : p ∈ bx) {r : Nat} (hk : boxBlk M p = some r) {o : Obj} (hr : w.heap[r]? = some o) (hc : boxy o = false) : False := by
  obtain ⟨i, b⟩ := p
  cases b with
  | var cs =>
    obtain ⟨arr, T, h1, _⟩ := h.ok i _ hp
    have hk' : M.blk i = r := by simpa [boxBlk] using hk
    rw [hk', hr] at h1
    cases h1
    simp [boxy] at hc
  | row e sz es =>
    obtain ⟨xs, h1, _⟩ := h.ok i _ hp
    rcases h1.2 with ⟨hv, _⟩ | ⟨g, cap, cur, hv, _, hg, _⟩
    · simp [boxBlk, hv, Value.ownBlock] at hk
    · have hk' : g = r := by simpa [boxBlk, hv, Value.ownBlock] using hk
      rw [hk', hr] at hg
      cases hg
      simp [boxy] at hc
  | map Q k e m =>
    obtain ⟨_, n, es, clock, h2, _⟩ := h.ok i _ hp
    have hk' : M.blk i = r := by simpa [boxBlk] using hk
    rw [hk', hr] at h2
    cases h2
    simp [boxy] at hc

/-- What a function that is ranged over does, called with yield: the elements come one after the other. -/
def Iter (P : Program) (gf : FuncId) (caps : List D) {α : Type} (vv : α → Value) (xs : List α) : Prop :=
  (∀ args w, (callFunc gf args).run P w = .ok (.enter gf args) w) ∧
  ∀ (w : World) (A : Nat → Prop) (lb : Array Value), lb.size = caps.length → (∀ (j : Nat) (c : D), caps[j]? = some c → ∃ u, lb[j]? = some u ∧ RelD w A c u) →
  ∀ (l : Nat) (J : List α → World → Prop), (∀ pre W, J pre W → ∀ b off u, ¬ A b → w.cell? ⟨b, off, none⟩ = some u → W.cell? ⟨b, off, none⟩ = some u) →
    (∀ pre W W', J pre W → Below W.heap.size W W' → J pre W') →
    (∀ pre x W1, J pre W1 → pre ++ [x] <+: xs → YieldAt Fence.wide 0 P l #[vv x] W1 fun e W' => e = .returned (.bool true) ∧ J (pre ++ [x]) W') →
    ∀ W, J [] W → CallsIn Fence.wide 0 P gf (#[.func (.yield l) #[] #[]] ++ lb) W fun e W' => (∃ v, e = .returned v) ∧ J xs W'

/-- THE STATEMENT 'for x := range f { body }', the body going on to its end in every round. -/
theorem T_range {g p : Tmp} {assign body : Code} {α : Type} (base' gf : Nat) (caps : List D) (vv : α → Value) (lx : α → LV) (xs : List α) (st : List α → DS) (s : DS)
    (hvv : ∀ x w A M, LV.rel w A M (lx x) (vv x)) (hb' : base ≤ base') (h0 : s = st []) (hslot : ∀ pre, pre <+: xs → (st pre).sl[g]? = some (.one (.dat (.fn gf caps))))
    (hit : Iter P gf caps vv xs)
    (hround : ∀ (r : Nat) (pre : List α) (x : α), pre ++ [x] <+: xs → TI P r base' assign (fun dx s1 => dx = .normal ∧
      TI P r base' body (fun dx s2 => dx = .normal ∧ (((st pre).back s1.bx base').back s2.bx base').Le (st (pre ++ [x]))) s1) ((st pre).put (some p) (lx x)))
    (hQ : Q .normal (st xs)) : T P base (.rangeFunc (.tmp g) #[p] assign body) Q s := by
  subst h0
  intro E M w a hE hst
  refine (wpIn_wide (n := 0)).1 ?_
  have hgr := hst.slots g _ (hslot [] List.nil_prefix)
  have hgv : a.eval (.tmp g) = a.tmps.getD g undef := rfl
  simp only [LV.rel, C.rel] at hgr
  generalize hv : a.tmps.getD g undef = v at hgr
  cases hgr with
  | fn _ _ lb hsz vs hvs hrel =>
  have hcap : ∀ (j : Nat) (c : D), caps[j]? = some c → ∃ u, lb[j]? = some u ∧ RelD w (Av E.A0 M (st []).bx) c u := fun j c hj => ⟨vs j, hvs j c hj, hrel j c hj⟩
  have hE1 : EnvExt E (E.within M w (st []).bx base E.marks) := by
    refine ⟨hE.symm, fun _ h => h, fun k hk => ?_, hst.boxes.frame, fun i hi hl => ?_, [], rfl, by simp, by simp⟩
    · obtain ⟨q, hq, hk⟩ := hk
      exact (hst.boxes.new q hq k hk).1
    · obtain ⟨q, hq, rfl⟩ := List.mem_map.1 hl
      exact hst.boxes.old q hq hi
  have hst1 : St (E.within M w (st []).bx base E.marks) M w a (st []) := ⟨hst.defers, hst.size, hst.slots, hst.boxes.within base E.marks⟩
  generalize hE1d : E.within M w (st []).bx base E.marks = E1 at hE1 hst1
  have hE1w : E1.w0 = w := by rw [← hE1d]; rfl
  have hE1b : E1.base = base := by rw [← hE1d]; rfl
  have hE1O : ∀ k, E1.O k → Av E.A0 M (st []).bx k := fun k hk => by rw [← hE1d] at hk; exact .inr hk
  refine wpIn_rangeFunc ?_
  intro fn _
  obtain ⟨rec, hrec⟩ : ∃ rec : LoopState → Option Code → Loop, rec = fun st pe => { state := st, pending := pe, fn, tmps := a.tmps, params := #[p], assign, body, defers := w.heap.size } := ⟨_, rfl⟩
  obtain ⟨W1, hW1⟩ : ∃ W1, (w.alloc (.deferred (some []))).alloc (.loop (rec .ready none)) = W1 := ⟨_, rfl⟩
  have hL1 : W1.heap[w.heap.size + 1]? = some (.loop (rec .ready none)) := by
    rw [← hW1]; have := World.alloc_heap_new (w.alloc (.deferred (some []))) (.loop (rec .ready none)); rwa [World.size_alloc] at this
  have hK1 : W1.heap[w.heap.size]? = some (.deferred (some [])) := by
    rw [← hW1]; exact (Below.heap_alloc _ _ _ (by simp)).trans (World.alloc_heap_new w _)
  have hb1 : Below w.heap.size w W1 := by
    rw [← hW1]; exact ((Below.refl _ w).alloc (Nat.le_refl _) _).alloc (by simp) _
  refine ⟨w.heap.size + 1, [{ target := .collected w.heap.size, args := #[] }], W1, { target := .fn (.func gf) lb, args := #[.func (.yield (w.heap.size + 1)) #[] #[]] }, W1, gf,
    #[.func (.yield (w.heap.size + 1)) #[] #[]] ++ lb, W1, ?_, ?_, ?_, ?_, fun e => (by cases e), ?_⟩
  · rw [← hW1, hrec]; exact run_enterLoop_outer _ _ _ _ _
  · simp only [resolve, rangeCall, hgv, hv]
    simp [go_sem]
  · intro f' _; trivial
  · simp [invoke, go_sem, hit.1]
  · refine (hit.2 w (Av E.A0 M (st []).bx) lb hsz hcap (w.heap.size + 1)
      (fun pre W => (pre <+: xs → ∃ M2, St E1 M2 W a (st pre)) ∧ (∀ k, k < w.heap.size → ¬ E1.O k → W.heap[k]? = w.heap[k]?) ∧ W.heap[w.heap.size + 1]? = some (.loop (rec .ready none)) ∧ W.heap[w.heap.size]? = some (.deferred (some [])))
      ?_ ?_ ?_ W1 ⟨fun _ => ⟨M, hst1.below hb1⟩, fun k hk _ => hb1.block k hk, hL1, hK1⟩).mono ?_
    · rintro pre W ⟨_, hk, _, _⟩ b off u h1 h2
      have hlt := World.block_lt_of_cell? w ⟨b, off, none⟩ h2
      rw [World.cell?_of_block (hk b hlt fun ho => h1 (hE1O b ho))]; exact h2
    · rintro pre W W' ⟨h1, h2, h3, h4⟩ hbel
      have hl3 := (Array.getElem?_eq_some_iff.1 h3).1
      have hl4 := (Array.getElem?_eq_some_iff.1 h4).1
      exact ⟨fun hp => let ⟨M2, h⟩ := h1 hp; ⟨M2, h.below hbel⟩, fun k hk ho => by rw [hbel.block k (by omega)]; exact h2 k hk ho, by rw [hbel.block _ hl3]; exact h3, by rw [hbel.block _ hl4]; exact h4⟩
    · rintro pre x W ⟨hi, hkeep, hl, hk⟩ hpx
      have hppre : pre <+: xs := (List.prefix_append pre [x]).trans hpx
      obtain ⟨M2, hs2⟩ := hi hppre
      have hll : w.heap.size + 1 < W.heap.size := (Array.getElem?_eq_some_iff.1 hl).1
      have hy := run_yield (P := P) (args := #[vv x]) hl (by rw [hrec]; rfl)
      rw [hrec] at hy
      refine ⟨fn, _, assign, body, hy, roundIn_of_wpIn trivial ?_⟩
      have htm : ((#[p] : Array Tmp).zip #[vv x]).foldl (fun tmps (t, a) => tmps.setIfInBounds t a) a.tmps = (a.put (some p) (vv x)).tmps := by simp [Act.put]
      simp only [htm]
      -- the round's own state
      have hbW := hs2.boxes.within base' []
      have hsb : St (E1.within M2 W (st pre).bx base' []) M2 W { tmps := (a.put (some p) (vv x)).tmps, defers := [] } ((st pre).put (some p) (lx x)) := by
        have h1 := hs2.put (some p) (hvv x W (Av E1.A0 M2 (st pre).bx) M2)
        exact ⟨rfl, h1.size, h1.slots, hbW⟩
      have hA := hround (w.heap.size + 1) pre x hpx (E1.within M2 W (st pre).bx base' []) M2 W _ rfl hsb
      refine wpIn_mono hA ?_
      rintro e a1 Wa ⟨Ea, hexta, dx, s1, M3, hx, ⟨rfl, hbody⟩, hst3⟩
      cases e <;> simp only [XRel] at hx
      have hs3 := St.back hexta hbW.foreign hst3
      have hbox3 : Boxes (E1.within M2 W (st pre).bx base' []) M3 Wa s1.bx := hs3.boxes
      have notbox : ∀ (Mx : BMap) (Wx : World) (Ex : Env) (bx : List (Nat × Box)), Boxes Ex Mx Wx bx → ∀ k o, Wx.heap[k]? = some o → boxy o = false → ¬ ∃ q ∈ bx, boxBlk Mx q = some k := by
        rintro Mx Wx Ex bx hB k o ho hc ⟨q, hq, hk⟩
        exact box_cells hB hq hk ho hc
      have hlA : Wa.heap[w.heap.size + 1]? = some (.loop (rec .ready none)) := by
        rw [hbox3.frame.block _ hll (notbox _ _ _ _ hs2.boxes _ _ hl rfl)]; exact hl
      have hkA : Wa.heap[w.heap.size]? = some (.deferred (some [])) := by
        rw [hbox3.frame.block _ (by show w.heap.size < W.heap.size; omega) (notbox _ _ _ _ hs2.boxes _ _ hk rfl)]; exact hk
      have hllA : w.heap.size + 1 < Wa.heap.size := (Array.getElem?_eq_some_iff.1 hlA).1
      refine ⟨_, run_beginRound hlA (by rw [hrec]), ?_⟩
      -- the caller's state between the two pieces
      have hc1 := St.call (s := st pre) hs2 (by rw [hE1b]; exact hb') hbox3
      have hc2 : St E1 M3 (Wa.putObj (w.heap.size + 1) (.loop { rec .ready none with state := .busy })) a ((st pre).back s1.bx base') := hc1.putNew _ hlA rfl (by rw [hE1w]; omega)
      have hl2 : (Wa.putObj (w.heap.size + 1) (.loop { rec .ready none with state := .busy })).heap[w.heap.size + 1]? = some (.loop { rec .ready none with state := .busy }) := World.putObj_heap_same hllA
      have hk2 : (Wa.putObj (w.heap.size + 1) (.loop { rec .ready none with state := .busy })).heap[w.heap.size]? = some (.deferred (some [])) := (World.putObj_heap_other (by omega)).trans hkA
      have hkeep2 : ∀ k, k < w.heap.size → ¬ E1.O k → (Wa.putObj (w.heap.size + 1) (.loop { rec .ready none with state := .busy })).heap[k]? = w.heap[k]? := fun k hk' ho => by
        have := hc2.boxes.frame.block k (by rw [hE1w]; exact hk') ho
        rw [hE1w] at this; exact this
      generalize hWb : Wa.putObj (w.heap.size + 1) (.loop { rec .ready none with state := .busy }) = Wb at hc2 hl2 hk2 hkeep2
      have hllB : w.heap.size + 1 < Wb.heap.size := (Array.getElem?_eq_some_iff.1 hl2).1
      have hbC : Boxes (E1.within M3 Wb s1.bx base' Ea.marks) M3 Wb s1.bx := by
        have := hc2.boxes.within base' Ea.marks
        exact this
      have hA0 : ∀ b, E1.A0 b → Ea.A0 b := fun b hb => hexta.a0 b hb
      have hsc : St (E1.within M3 Wb s1.bx base' Ea.marks) M3 Wb a1 s1 := by
        have h1 : St { E1.within M2 W (st pre).bx base' [] with marks := Ea.marks } M3 Wa a1 s1 := ⟨hst3.defers, hs3.size, hs3.slots, ⟨hs3.boxes.ok, hs3.boxes.ids, hs3.boxes.blks, hs3.boxes.new, hs3.boxes.foreign, hs3.boxes.frame, hs3.boxes.old⟩⟩
        refine ⟨h1.defers, h1.size, fun t lv hlv => ?_, hbC⟩
        have := h1.slots t lv hlv
        rw [← hWb]
        refine LV.rel.mono ?_ this
        intro b off u g1 g2
        refine ⟨g1, ?_⟩
        have hne : b ≠ w.heap.size + 1 := fun e => by
          subst e
          simp [World.cell?, hlA] at g2
        rw [World.cell?_of_block (World.putObj_heap_other hne)]; exact g2
      have hB := hbody (E1.within M3 Wb s1.bx base' Ea.marks) M3 Wb a1 rfl hsc
      refine wpIn_mono hB ?_
      rintro e a2 Wc ⟨Ed, hextd, dx, s2, M4, hx2, ⟨rfl, hle⟩, hst4⟩
      cases e <;> simp only [XRel] at hx2
      have hs4 := St.back hextd hbC.foreign hst4
      have hlC : Wc.heap[w.heap.size + 1]? = some (.loop { rec .ready none with state := .busy }) := by
        rw [hs4.boxes.frame.block _ hllB (notbox _ _ _ _ hc2.boxes _ _ hl2 rfl)]; exact hl2
      have hkC : Wc.heap[w.heap.size]? = some (.deferred (some [])) := by
        rw [hs4.boxes.frame.block _ (by show w.heap.size < Wb.heap.size; omega) (notbox _ _ _ _ hc2.boxes _ _ hk2 rfl)]; exact hk2
      have hc4 := St.call (s := (st pre).back s1.bx base') hc2 (by rw [hE1b]; exact hb') hs4.boxes
      obtain ⟨M5, hc5⟩ := hle E1 M4 Wc a hc4
      have hend := run_endRound (P := P) none hlC
      have hllC : w.heap.size + 1 < Wc.heap.size := (Array.getElem?_eq_some_iff.1 hlC).1
      refine ⟨_, _, hend, rfl, fun _ => ⟨M5, hc5.putNew _ hlC rfl (by rw [hE1w]; omega)⟩, fun k hk' ho => ?_, ?_, ?_⟩
      · rw [World.putObj_heap_other (by omega)]
        have := hc5.boxes.frame.block k (by rw [hE1w]; exact hk') ho
        rw [hE1w] at this; exact this
      · rw [World.putObj_heap_same hllC, hrec]; rfl
      · rw [World.putObj_heap_other (by omega)]; exact hkC
    · rintro e W2 ⟨⟨u, rfl⟩, hi, hkeep, hl, hk⟩
      obtain ⟨Mz, hz⟩ := hi (List.prefix_refl xs)
      have hll : w.heap.size + 1 < W2.heap.size := (Array.getElem?_eq_some_iff.1 hl).1
      refine ⟨none, _, by have := run_endLoop (P := P) hl (by rw [hrec]; simp); rw [hrec] at this; exact this, ?_⟩
      have hz2 := hz.putNew (.loop { rec .ready none with state := .exhausted }) hl rfl (by rw [hE1w]; omega)
      have hkz : (W2.putObj (w.heap.size + 1) (.loop { rec .ready none with state := .exhausted })).heap[w.heap.size]? = some (.deferred (some [])) := (World.putObj_heap_other (by omega)).trans hk
      rw [hrec] at hz2 hkz
      refine ⟨E1.within Mz _ (st xs).bx base (({ target := .collected w.heap.size, args := #[] }, w.heap.size) :: E.marks), ?_, .normal, st xs, Mz, trivial, hQ, ⟨?_, hz2.size, hz2.slots, hz2.boxes.within base _⟩⟩
      · refine hE1.trans ⟨hE1b.symm, fun _ h => h, fun k hk' => ?_, hz2.boxes.frame, fun i hi' hl' => ?_, [({ target := .collected w.heap.size, args := #[] }, w.heap.size)], ?_, by simp, fun q hq => ?_⟩
        · obtain ⟨q, hq, hk'⟩ := hk'
          exact (hz2.boxes.new q hq k hk').1
        · obtain ⟨q, hq, rfl⟩ := List.mem_map.1 hl'
          exact hz2.boxes.old q hq hi'
        · rw [← hE1d]; rfl
        · rw [List.mem_singleton] at hq
          subst hq
          exact ⟨rfl, (Array.getElem?_eq_some_iff.1 hkz).1, fun ⟨q, hq, hk'⟩ => box_cells hz2.boxes hq hk' hkz rfl, hkz, by rw [hE1w]; exact Nat.le_refl _⟩
      · have hd := hst.defers
        show [_] ++ a.defers = _
        rw [hd]; rfl
end
end Go.DL

/-
  The data-level framework, second series, part b: local arrays taken as rows; a sort of a row of the call's own. Generic in the program; no condition.
-/
set_option linter.unusedVariables false
set_option linter.unusedSimpArgs false
namespace Go.DL
open Go.RowKit

section
variable {P : Program} {w : World} {M : BMap} {base : Nat} {Q : DX → DS → Prop} {s : DS}

theorem TL_estep {ops : Array Oper} {o : Oper} {rest : List Oper} (hg : o.guard = none) (s' : DS) (hst : ∀ E M w a, E.base = base → St E M w a s → EStep P o E w a s') (h : TL P base ops rest Q s') : TL P base ops (o :: rest) Q s := by
  intro E M w a hE hs
  refine wpList_plain hg fun K hK => ?_
  exact hst E M w a hE hs K _ fun v w' M' hst' => hK _ _ (h E M' w' _ hE hst')

/-- The cells of a type's zero value. -/
def zeroCs (P : Program) (t : TypeId) : Option (List C) :=
  match P.info? t with
  | some i => match i.zero with
    | some z => some (z.cells.toList.map ofConstCell)
    | none => none
  | none => none

/-- 'var x [n]T', taken as a row of the call's own. -/
theorem TL_arr {ops : Array Oper} {o : Oper} {rest : List Oper} (t : TypeId) (d id sz : Nat) (es : List D) (hop : o.op = .alloc t) (hd : o.dst = some d) (hg : o.guard = none)
    (hz : zeroCs P t = some ((flat es).map .dat)) (hu : (es.all fun e => e.cells.length == sz) = true) (hmax : Nat.ble es.length maxLen = true) (hb : Nat.ble base id = true)
    (h : TL P base ops rest Q (((s.drop id).push id (.row t sz es)).put (some d) (.one (.rref id 0 0)))) : TL P base ops (o :: rest) Q s := by
  obtain ⟨i, z, hi, hzv, hes⟩ : ∃ i z, P.info? t = some i ∧ i.zero = some z ∧ z.cells.toList.map ofConstCell = (flat es).map .dat := by
    unfold zeroCs at hz
    split at hz
    · rename_i i hi
      split at hz
      · rename_i z hzv
        exact ⟨i, z, hi, hzv, by simpa using hz⟩
      · cases hz
    · cases hz
  have hu' : ∀ e ∈ es, e.cells.length = sz := fun e he => by have := List.all_eq_true.1 hu e he; simpa using this
  have hsz : z.cells.size = es.length * sz := by
    have := congrArg List.length hes
    simp only [List.length_map, Array.length_toList] at this
    rw [this, flat_length es hu']
  refine TL_estep hg _ (fun E M w a hE hst => ?_) h
  have hr : (execOp a.eval o).run P w = .ok (.value (.pointer (some ⟨w.heap.size, 0, none⟩))) (w.alloc (.cells z.cells t)) := by
    simp [execOp, hop, Instr.alloc, zeroValue, typeInfo, hi, hzv, newVar, newRow]
  refine EStep.of_run (M' := M.upd id w.heap.size (.slice (some ⟨w.heap.size, 0, none⟩) es.length es.length) sz) hr ?_
  rw [hd]
  refine St.put ?_ (some d) (by simp [LV.rel, C.rel, BMap.upd])
  refine row_box hst (by rw [hE]; exact Nat.le_of_ble_eq_true hb) hsz rfl (Nat.le_refl _) (Nat.le_of_ble_eq_true hmax) hu' fun A' _ j c hj => ?_
  have h1 : (z.cells.toList.map ofConstCell)[j]? = some (.dat c) := by rw [hes, List.getElem?_map, hj]; rfl
  simp only [List.getElem?_map, Option.map_eq_some_iff] at h1
  obtain ⟨u, hu', hc⟩ := h1
  refine ⟨u, by simpa using hu', ?_⟩
  have := ofConstCell_rel (w := w.alloc (.cells z.cells t)) (A := A') (M := ⟨fun _ => 0, fun _ => undef, fun _ => 0⟩) u
  rw [hc] at this
  exact this

theorem Av_dropped {E : Env} {a : Act} (hst : St E M w a s) {id : Nat} {bb : Box} (hm : (id, bb) ∈ s.bx) (blk : Nat) (rv : Value) (sz : Nat) {b : Nat} (h : Av E.A0 (M.upd id blk rv sz) (s.drop id).bx b) : Av E.A0 M s.bx b ∧ boxBlk M (id, bb) ≠ some b := by
  refine ⟨Av_drop h, fun hb => ?_⟩
  rcases h with h | ⟨p, hp, hpb⟩
  · have h1 := (hst.boxes.new _ hm b hb).1
    have h2 := hst.boxes.foreign b h
    rcases h1 with h1 | h1
    · exact h2.2 h1
    · have := h2.1; omega
  · obtain ⟨hne, b', hm', he⟩ := mem_drop hp
    obtain ⟨i, bx⟩ := p
    simp only at he hne hm'
    subst he
    rw [boxBlk_upd hne, boxBlk_scrub] at hpb
    have := blks_inj hst.boxes.blks _ hm' _ hm b hpb hb
    cases this
    exact hne rfl

/-- 'x[:n]' of such an array: what it holds is handed on as data. -/
theorem TL_arrSlice {ops : Array Oper} {o : Oper} {rest : List Oper} (t : TypeId) (d id sz len : Nat) (e et : TypeId) (es es' : List D) (x y : Operand) (n : Nat) (hop : o.op = .slice t x none (some y) none) (hd : o.dst = some d) (hg : o.guard = none)
    (hu : P.underlying t = some (.array len e)) (hie : (P.info? e).map (·.size) = some sz) (hx : s.ev x = .one (.rref id 0 0)) (hy : s.ev y = .one (.dat (.int .i64 (n : Int)))) (hl : s.bx.lookup id = some (.row et sz es)) (hlen : es.length = len) (h0 : 0 < len) (hn : n ≤ len) (hes' : es'= es.take n)
    (h : TL P base ops rest Q ((s.drop id).put (some d) (.one (.dat (.sl sz es'))))) : TL P base ops (o :: rest) Q s := by
  subst hes'
  obtain ⟨ie, hie, hsz⟩ := Option.map_eq_some_iff.1 hie
  refine TL_estep hg _ (fun E M w a hE hst => ?_) h
  have rx := ev_rel hst.size hst.slots x
  have ry := ev_rel hst.size hst.slots y
  rw [hx] at rx
  rw [hy] at ry
  simp only [LV.rel, C.rel, Nat.zero_mul, Nat.add_zero] at rx ry
  have ry := relD_int ry
  have hm := lookup_mem hl
  have hal : P.arrayLen t = len := by simp [Program.arrayLen, hu]
  have hel : P.elem t = e := by simp [Program.elem, hu]
  have hrun := run_sliceAt_array_h (P := P) w t ⟨M.blk id, 0, none⟩ (by rw [hal, hel]; exact hu) .i64 (n : Int) (by omega) (by rw [hal]; omega)
  rw [hal, hel] at hrun
  have hr : (execOp a.eval o).run P w = .ok (.value (sliced (some ⟨M.blk id, 0, none⟩) 0 n len sz)) w := by
    simp [execOp, hop, rx, ry, hrun, sizeOf, typeInfo, hie, slicedAt, sliced, hsz, Result.andThen]
    split <;> rfl
  refine EStep.of_run (M' := M.upd id 0 undef 0) hr ?_
  rw [hd]
  have hdrop : St E (M.upd id 0 undef 0) w a (s.drop id) := (hst.toA.drop id 0 undef 0).toSt fun b hb => Av_drop hb
  refine St.put hdrop (some d) ?_
  have hok := hst.boxes.ok id _ hm
  obtain ⟨xs, ho, _, _, _, hb⟩ := hok
  rcases ho.2 with ⟨_, h1⟩ | ⟨g, cap, cur, hrv, _, _, hcap, _⟩
  · omega
  have hgb : g = M.blk id := hb g (by rw [hrv]; rfl)
  subst hgb
  have hrel := row_rel (A := Av E.A0 M s.bx) (Av E.A0 (M.upd id 0 undef 0) (s.drop id).bx) (fun b hb => by
    have h3 := Av_dropped hst hm 0 undef 0 hb
    exact ⟨h3.1, by simpa [boxBlk] using h3.2⟩) (hst.boxes.ok id _ hm)
  rw [hrv] at hrel
  have := sl_sub hrel 0 n len (Nat.zero_le _) (by omega) hn (by omega)
  simpa [LV.rel, C.rel] using this

theorem TI_block {r id : Nat} {c : Code} (h : TI P r base c (DX.blk id Q) s) : TI P r base (.block id c) Q s := by
  intro E M w a hb hs
  refine wpIn_block (wpIn_mono (h E M w a hb hs) ?_)
  rintro e a' w' ⟨E1, hext, dx, s', M', hx, hq, hst⟩
  cases dx with
  | normal =>
    cases e <;> simp only [XRel] at hx
    exact ⟨E1, hext, .normal, s', M', trivial, hq, hst⟩
  | exit j =>
    cases e <;> simp only [XRel] at hx
    subst hx
    simp only [DX.blk] at hq
    simp only [Exit.inBlock]
    split <;> rename_i hj
    · rw [if_pos hj] at hq
      exact ⟨E1, hext, .normal, s', M', trivial, hq, hst⟩
    · rw [if_neg hj] at hq
      exact ⟨E1, hext, .exit _, s', M', rfl, hq, hst⟩
  | ret =>
    cases e <;> simp only [XRel] at hx
    exact ⟨E1, hext, .ret, s', M', trivial, hq, hst⟩
  | panic d =>
    cases e <;> simp only [XRel] at hx
    exact ⟨E1, hext, .panic d, s', M', hx, hq, hst⟩

/-! ### sorting a row -/
def toV : D → Value
  | .int k n => .int k n
  | _ => undef

def intC : D → Bool
  | .int _ _ => true
  | _ => false

theorem toV_rel {A : Nat → Prop} {c : D} (h : intC c = true) : RelD w A c (toV c) := by
  cases c <;> simp [intC] at h
  exact .int _ _

theorem rel_toV {A : Nat → Prop} {c : D} {v : Value} (h : intC c = true) (hr : RelD w A c v) : v = toV c := by
  cases c <;> simp [intC] at h
  cases hr
  rfl

/-- The values of a row of integers. -/
def rowV (es : List D) : List Value := (flat es).map toV

/-- What a function sorts a slice's elements to, called with the function g that compares. -/
def SortOK (P : Program) (f g : FuncId) (e : TypeId) (sz : Nat) {α : Type} (enc : α → D) (R : List α → List α → Prop) : Prop :=
  Callable P f ∧ ∀ (w : World) (blk cap : Nat) (cur : Array Value) (d : List α), d ≠ [] → d.length < 4611686018427387904 → w.heap[blk]? = some (.cells cur e (0, 0)) → d.length ≤ cap → cap ≤ maxLen → cur.size = cap * sz → cur.toList.take (d.length * sz) = rowV (d.map enc) →
    Calls P f #[.slice (some ⟨blk, 0, none⟩) d.length cap, .func (.func g) #[] #[]] w fun x w' => x = .returned (.tuple #[]) ∧
      ∃ d' cur', R d d' ∧ d'.length = d.length ∧ w.grownBy w' (some blk) ∧ w'.heap[blk]? = some (.cells cur' e (0, 0)) ∧ cur'.size = cur.size ∧ cur'.toList.take (d.length * sz) = rowV (d'.map enc)

theorem TL_sort {ops : Array Oper} {o : Oper} {rest : List Oper} {α : Type} {enc : α → D} {R : List α → List α → Prop} (f g : FuncId) (e : TypeId) (sz : Nat) {fop x y : Operand} {ts : Array TypeId} (hok : SortOK P f g e sz enc R)
    (ho : o.op = .call { callee := .value fop, args := #[x, y], argTypes := ts }) (hgd : o.guard = none) (hf : s.ev fop = .one (.fn f [])) (id : Nat) (hx : s.ev x = .one (.own id)) (hy : s.ev y = .one (.fn g [])) (d : List α) (hl : s.bx.lookup id = some (.row e sz (d.map enc)))
    (hne : d ≠ []) (hlt : d.length < 4611686018427387904) (hint : ∀ x, (enc x).cells.length = sz ∧ (enc x).cells.all intC = true)
    (h : ∀ d', R d d' → d'.length = d.length → TL P base ops rest Q ((s.setBox id (.row e sz (d'.map enc))).put o.dst UD)) : TL P base ops (o :: rest) Q s := by
  intro E M w a hE hst
  refine wpList_plain hgd fun K hK => ?_
  have hslots := ev_rel hst.size hst.slots
  have hfr := hslots fop
  rw [hf] at hfr
  obtain ⟨cv, hfv, hcs, hcv⟩ := hfr
  have hcv0 : cv = #[] := Array.eq_empty_of_size_eq_zero (by simpa using hcs)
  subst hcv0
  have hyr := hslots y
  rw [hy] at hyr
  obtain ⟨cy, hyv, hcy, _⟩ := hyr
  have hcy0 : cy = #[] := Array.eq_empty_of_size_eq_zero (by simpa using hcy)
  subst hcy0
  unfold Oper.wp
  rw [run_call_func ho hfv hok.1, Oper.upon_enter]
  have hxr := hslots x
  rw [hx] at hxr
  simp only [LV.rel, C.rel] at hxr
  have hm := lookup_mem hl
  have hsz : ∀ (l : List α), ∀ c ∈ l.map enc, c.cells.length = sz := fun l c hc => by
    obtain ⟨z, _, rfl⟩ := List.mem_map.1 hc
    exact (hint z).1
  have hall : ∀ (l : List α) (j : Nat) (c : D), (flat (l.map enc))[j]? = some c → intC c = true := fun l j c hc => by
    have := List.mem_of_getElem? hc
    simp only [flat, List.mem_flatMap, List.mem_map] at this
    obtain ⟨_, ⟨z, _, rfl⟩, hcz⟩ := this
    exact List.all_eq_true.1 (hint z).2 c hcz
  obtain ⟨xs, ho', hu, hMs, hrel, hblk⟩ := hst.boxes.ok id _ hm
  have hdl : 0 < d.length := List.length_pos_iff.2 hne
  rw [List.length_map] at ho'
  rcases ho'.2 with ⟨_, h1⟩ | ⟨g0, cap, cur, hrv, _, hheap, hcap, hcapm, hcs', htk⟩
  · omega
  have hgb : g0 = M.blk id := hblk g0 (by rw [hrv]; rfl)
  subst hgb
  have hargs : (#[x, y] : Array Operand).map a.eval ++ #[] = #[.slice (some ⟨M.blk id, 0, none⟩) d.length cap, .func (.func g) #[] #[]] := by
    simp [hxr, hrv, hyv]
  rw [hargs]
  have hfl : ∀ l : List α, (flat (l.map enc)).length = l.length * sz := fun l => by rw [flat_length _ (hsz l), List.length_map]
  have hxs : xs = rowV (d.map enc) := by
    apply List.ext_getElem?
    intro j
    rw [rowV, List.getElem?_map]
    cases hj : (flat (d.map enc))[j]? with
    | none =>
      have : (flat (d.map enc)).length ≤ j := List.getElem?_eq_none_iff.1 hj
      rw [hfl] at this
      have h3 := ho'.1
      simp; omega
    | some c =>
      obtain ⟨v, hv, hr⟩ := hrel j c hj
      rw [hv, rel_toV (hall d j c hj) hr]; rfl
  refine (hok.2 w (M.blk id) cap cur d hne hlt hheap hcap hcapm hcs' (by rw [← hxs, ← htk]) ).mono ?_
  rintro x' w' ⟨rfl, d', cur', hR, hlen, hg, hheap', hsz', htk'⟩
  refine hK _ _ (h d' hR hlen E M w' _ hE ?_)
  refine St.put (hst.setBox (b := .row e sz (d'.map enc)) hm rfl ?_ fun A' _ => ?_) o.dst ?_
  · simpa [boxBlk, hrv, Value.ownBlock] using hg
  · refine ⟨rowV (d'.map enc), ⟨?_, .inr ⟨M.blk id, cap, cur', by rw [hrv, List.length_map, hlen], Nat.zero_le _, hheap', by rw [List.length_map]; omega, hcapm, by rw [hsz']; exact hcs', ?_⟩⟩, hsz d', hMs, fun j c hj => ⟨toV c, by rw [rowV, List.getElem?_map, hj]; rfl, toV_rel (hall d' j c hj)⟩, hblk⟩
    · rw [rowV, List.length_map, hfl, List.length_map]
    · rw [List.length_map, hlen]; exact htk'
  · exact ud_rel
end
end Go.DL

/-
  The data-level framework, second series, part c: maps from int to int of the call's own. Generic in the program; no condition.
-/
set_option linter.unusedVariables false
set_option linter.unusedSimpArgs false
namespace Go.DL
open Go.RowKit Go.Maps

def mapD (l : List (Int × Int)) : DataW Unit := .map (l.map fun p => (.int .i64 p.1, .lit (.int .i64 p.2)))

def mget : List (Int × Int) → Int → Int
  | [], _ => 0
  | p :: l, a => if p.1 = a then p.2 else mget l a

def minsert (x : Int × Int) : List (Int × Int) → List (Int × Int)
  | [] => [x]
  | y :: r => if x.1 < y.1 then x :: y :: r else y :: minsert x r

def mput (l : List (Int × Int)) (a v : Int) : List (Int × Int) := minsert (a, v) (l.filter fun p => !(p.1 == a))

theorem mapD_get (l : List (Int × Int)) (a : Int) : (mapD l).atKey (.int .i64 a) (.lit (.int .i64 0)) = .lit (.int .i64 (mget l a)) := by
  simp only [mapD, DataW.atKey]
  induction l with
  | nil => rfl
  | cons p l ih =>
    simp only [List.map_cons, List.find?_cons, Lit.sameKey, mget]
    by_cases h : p.1 = a
    · simp [h]
    · simp only [h, and_false, decide_false, if_false]
      exact ih

theorem mapD_ins (x : Int × Int) (l : List (Int × Int)) : DataW.insert ((.int .i64 x.1 : Lit), (.lit (.int .i64 x.2) : DataW Unit)) (l.map fun p => (.int .i64 p.1, .lit (.int .i64 p.2))) = (minsert x l).map fun p => (.int .i64 p.1, .lit (.int .i64 p.2)) := by
  induction l with
  | nil => rfl
  | cons y r ih =>
    simp only [List.map_cons, DataW.insert, minsert, Lit.before]
    by_cases h : x.1 < y.1
    · simp [h]
    · simp only [h, decide_false, if_false, Bool.false_eq_true, List.map_cons]
      rw [ih]

theorem mapD_put (l : List (Int × Int)) (a v : Int) : (mapD l).put (.int .i64 a) (.lit (.int .i64 v)) = mapD (mput l a v) := by
  simp only [mapD, DataW.put, mput]
  rw [← mapD_ins, List.filter_map]
  congr 3
  refine List.filter_congr fun p _ => ?_
  simp only [Lit.sameKey, Function.comp_def, true_and]
  by_cases h : p.1 = a <;> simp [h]

theorem wf_i64 {a : Int} (h1 : -9223372036854775808 ≤ a) (h2 : a ≤ 9223372036854775807) : (Lit.int .i64 a).wf = true := by
  simp [Lit.wf, IntKind.min, IntKind.max, IntKind.bits, IntKind.signed]
  omega

section
variable {P : Program} {w : World} {M : BMap} {base : Nat} {Q : DX → DS → Prop} {s : DS}

/-- The least bound of such a map. -/
theorem ownsMap_size {k e : TypeId} {b n : Nat} {l : List (Int × Int)} (h : w.ownsMap P k (plainElem P e) b n (mapD l)) : w.ownsMap P k (plainElem P e) b l.length (mapD l) := by
  obtain ⟨es, clock, hb, F, _, hD⟩ := h
  refine ⟨es, clock, hb, F, ?_, hD⟩
  have h2 := congrArg (fun d => match d with | DataW.map es => es.length | _ => 0) hD
  simp only [mapD, List.length_map] at h2
  rw [length_sorted] at h2
  simp at h2
  omega

theorem TL_makeMap {ops : Array Oper} {o : Oper} {rest : List Oper} (t k e : TypeId) (d id : Nat) (hop : o.op = .makeMap t none) (hd : o.dst = some d) (hg : o.guard = none) (hu : P.underlying t = some (.map k e)) (hb : Nat.ble base id = true)
    (h : TL P base ops rest Q (((s.drop id).push id (.map P k e (mapD []))).put (some d) (.one (.own id)))) : TL P base ops (o :: rest) Q s := by
  refine TL_estep hg _ (fun E M w a hE hst => ?_) h
  have hr : (execOp a.eval o).run P w = .ok (.value (.map (some w.heap.size))) (w.alloc (.map #[] 0)) := by
    simp [execOp, hop, run_makeMap]
  refine EStep.of_run (M' := M.upd id w.heap.size (.map (some w.heap.size)) 0) hr ?_
  rw [hd]
  refine St.put ?_ (some d) (by simp [LV.rel, C.rel, BMap.upd])
  refine StA.push (hst.toA.drop id w.heap.size (.map (some w.heap.size)) 0) drop_free (by rw [hE]; exact Nat.le_of_ble_eq_true hb) (row := none) (World.grownBy_alloc w _ none) (fun k hk => by cases hk) (fun b hb => Av_drop hb) (fun k hk => ?_) fun A' _ => ?_
  · simp only [boxBlk, BMap.upd, if_true, Option.some.injEq] at hk
    subst hk
    exact ⟨.inr (Nat.le_refl _), by simp⟩
  · refine ⟨by simp [BMap.upd], 0, ?_⟩
    simp only [BMap.upd, if_true]
    exact World.ownsMap_made w P k (plainElem P e)

theorem TL_lookup {ops : Array Oper} {o : Oper} {rest : List Oper} (t k e : TypeId) (id : Nat) (m x : Operand) (l : List (Int × Int)) (a : Int) (hop : o.op = .lookup t m x false) (hg : o.guard = none) (hu : P.underlying t = some (.map k e)) (hk : P.underlying k = some (.int .i64)) (he : P.underlying e = some (.int .i64))
    (hz : (P.info? e).bind (·.zero) = some (.int .i64 0)) (hm : s.ev m = .one (.own id)) (hx : s.ev x = .one (.dat (.int .i64 a))) (hl : s.bx.lookup id = some (.map P k e (mapD l))) (h1 : -9223372036854775808 ≤ a ∧ a ≤ 9223372036854775807)
    (h : TL P base ops rest Q (s.put o.dst (.one (.dat (.int .i64 (mget l a)))))) : TL P base ops (o :: rest) Q s := by
  refine TL_estep hg _ (fun E M w act hE hst => ?_) h
  have rm := ev_rel hst.size hst.slots m
  have rx := ev_rel hst.size hst.slots x
  rw [hm] at rm
  rw [hx] at rx
  simp only [LV.rel, C.rel] at rm rx
  have rx := relD_int rx
  obtain ⟨g1, n, g2⟩ := hst.boxes.ok id _ (lookup_mem hl)
  have hzv : (zeroValue e).run P w = .ok (.int .i64 0) w := by
    cases hi : P.info? e with
    | none => simp [hi] at hz
    | some i =>
      simp only [hi, Option.bind_some] at hz
      simp [zeroValue, typeInfo, hi, hz]
  obtain ⟨c, hrun, hat, _⟩ := g2.lookup_int (int_keyed hk) hu he hzv (key := .int .i64 a) (kl := .int .i64 a) (by simp [keyOf, hk, mapKey, wf_i64 h1.1 h1.2])
  rw [mapD_get] at hat
  simp only [DataW.lit.injEq, Lit.int.injEq, true_and] at hat
  subst hat
  have hr : (execOp act.eval o).run P w = .ok (.value (.int .i64 (mget l a))) w := by
    simp [execOp, hop, rm, g1, rx, hrun]
  exact EStep.of_run (M' := M) hr (hst.put o.dst (.int .i64 _))

theorem TL_mapUpdate {ops : Array Oper} {o : Oper} {rest : List Oper} (t k e : TypeId) (id : Nat) (m x y : Operand) (l : List (Int × Int)) (a v : Int) (hop : o.op = .mapUpdate t m x y) (hg : o.guard = none) (hu : P.underlying t = some (.map k e)) (hk : P.underlying k = some (.int .i64)) (he : P.underlying e = some (.int .i64))
    (hm : s.ev m = .one (.own id)) (hx : s.ev x = .one (.dat (.int .i64 a))) (hy : s.ev y = .one (.dat (.int .i64 v))) (hl : s.bx.lookup id = some (.map P k e (mapD l))) (h1 : -9223372036854775808 ≤ a ∧ a ≤ 9223372036854775807) (h2 : -9223372036854775808 ≤ v ∧ v ≤ 9223372036854775807) (hn : l.length < maxLen)
    (h : TL P base ops rest Q ((s.setBox id (.map P k e (mapD (mput l a v)))).put o.dst UD)) : TL P base ops (o :: rest) Q s := by
  refine TL_estep hg _ (fun E M w act hE hst => ?_) h
  have rm := ev_rel hst.size hst.slots m
  have rx := ev_rel hst.size hst.slots x
  have ry := ev_rel hst.size hst.slots y
  rw [hm] at rm
  rw [hx] at rx
  rw [hy] at ry
  simp only [LV.rel, C.rel] at rm rx ry
  have rx := relD_int rx
  have ry := relD_int ry
  have hmem := lookup_mem hl
  obtain ⟨g1, n, g2⟩ := hst.boxes.ok id _ hmem
  obtain ⟨w', hrun, r1, r2⟩ := (ownsMap_size g2).update (int_keyed hk) hu hn (key := .int .i64 a) (kl := .int .i64 a) (val := .int .i64 v) (d := .lit (.int .i64 v)) (ps := []) (by simp [keyOf, hk, mapKey, wf_i64 h1.1 h1.2]) (plainElem_int he (wf_i64 h2.1 h2.2))
  rw [mapD_put] at r1
  intro K Q' hK
  have hst' : St E M w' act (s.setBox id (.map P k e (mapD (mput l a v)))) := hst.setBox (b := .map P k e (mapD (mput l a v))) hmem rfl r2 fun A' _ => ⟨g1, _, r1⟩
  have := hK undef w' M (hst'.put o.dst ud_rel)
  unfold Oper.wp
  simp only [execOp, hop, rm, g1, rx, ry, Sem.run_bind, hrun, Result.andThen]
  exact this

/-- What maps.Keys and then slices.Sorted make of a map of the call's own. -/
def KeysOK (P : Program) (f g : FuncId) (k e et : TypeId) : Prop :=
  Callable P f ∧ Callable P g ∧ ∀ (w : World) (b n : Nat) (l : List (Int × Int)), w.ownsMap P k (plainElem P e) b n (mapD l) → n < 17592186044416 →
    Calls P f #[.map (some b)] w fun x1 w1 => ∃ v1, x1 = .returned v1 ∧ Below w.heap.size w w1 ∧
      Calls P g #[v1] w1 fun x2 w2 => ∃ (v2 : Value) (ss : List Int), x2 = .returned v2 ∧ Below w.heap.size w w2 ∧ ss.Perm (intKeys (mapD l)) ∧ w2.ownsRow w.heap.size et 1 v2 ss.length ((ss.mergeSort fun x y => decide (x ≤ y)).map encZ)

theorem mergeSort_keys {ss ks : List Int} (hp : ss.Perm ks) (hs : ks.Pairwise (· < ·)) : (ss.mergeSort fun x y => decide (x ≤ y)) = ks := by
  have h1 : (ss.mergeSort fun x y => decide (x ≤ y)).Pairwise fun x y => decide (x ≤ y) = true := List.pairwise_mergeSort (fun a b c h1 h2 => by simp at *; omega) (fun a b => by simp; omega) ss
  have h2 : ks.Pairwise fun x y => decide (x ≤ y) = true := hs.imp fun h => by simp; omega
  exact ((List.mergeSort_perm ss _).trans hp).eq_of_pairwise (fun a b _ _ h1 h2 => by simp at h1 h2; omega) h1 h2

theorem intKeys_mapD (l : List (Int × Int)) : intKeys (mapD l) = l.map (·.1) := by
  simp [intKeys, mapD, intOf, Function.comp_def]

theorem TL_keys {ops : Array Oper} {o1 o2 : Oper} {rest : List Oper} (f g : FuncId) (k e et : TypeId) (hok : KeysOK P f g k e et) {f1 g1 m : Operand} {ts1 ts2 : Array TypeId} (d1 d2 id mid : Nat)
    (ho1 : o1.op = .call { callee := .value f1, args := #[m], argTypes := ts1 }) (hg1 : o1.guard = none) (hf1 : s.ev f1 = .one (.fn f [])) (hd1 : o1.dst = some d1)
    (ho2 : o2.op = .call { callee := .value g1, args := #[.tmp d1], argTypes := ts2 }) (hg2 : o2.guard = none) (hf2 : (s.put (some d1) (.one .junk)).ev g1 = .one (.fn g [])) (hd2 : o2.dst = some d2) (hlt : Nat.blt d1 s.sl.length = true)
    (hm : s.ev m = .one (.own mid)) (l : List (Int × Int)) (hl : s.bx.lookup mid = some (.map P k e (mapD l))) (hs : (l.map (·.1)).Pairwise (· < ·)) (hn : l.length < 17592186044416) (hb : Nat.ble base id = true)
    (h : TL P base ops rest Q ((((s.put (some d1) (.one .junk)).drop id).push id (.row et 1 ((l.map (·.1)).map fun x => .int .i64 x))).put (some d2) (.one (.own id)))) : TL P base ops (o1 :: o2 :: rest) Q s := by
  intro E M w a hE hst
  refine wpList_plain hg1 fun K hK => ?_
  have hslots := ev_rel hst.size hst.slots
  have hfr := hslots f1
  rw [hf1] at hfr
  obtain ⟨cv, hfv, hcs, _⟩ := hfr
  have hcv0 : cv = #[] := Array.eq_empty_of_size_eq_zero (by simpa using hcs)
  subst hcv0
  unfold Oper.wp
  rw [run_call_func ho1 hfv hok.1, Oper.upon_enter]
  have rm := hslots m
  rw [hm] at rm
  simp only [LV.rel, C.rel] at rm
  obtain ⟨e1, n, e2⟩ := hst.boxes.ok mid _ (lookup_mem hl)
  have hargs : (#[m] : Array Operand).map a.eval ++ #[] = #[.map (some (M.blk mid))] := by simp [rm, e1]
  rw [hargs]
  refine (hok.2.2 w (M.blk mid) l.length l (ownsMap_size e2) hn).mono ?_
  rintro x1 w1 ⟨v1, rfl, hb1, hcall⟩
  refine hK _ _ ?_
  rw [hd1]
  have hst1 : St E M w1 (a.put (some d1) v1) (s.put (some d1) (.one .junk)) := (hst.below hb1).put (some d1) (l := .one .junk) trivial
  refine wpList_plain hg2 fun K2 hK2 => ?_
  have hgr := ev_rel hst1.size hst1.slots g1
  rw [hf2] at hgr
  obtain ⟨cg, hgv, hcg, _⟩ := hgr
  have hcg0 : cg = #[] := Array.eq_empty_of_size_eq_zero (by simpa using hcg)
  subst hcg0
  unfold Oper.wp
  rw [run_call_func ho2 hgv hok.2.1, Oper.upon_enter]
  have hlt' : d1 < a.tmps.size := by rw [hst.size]; simpa [Nat.blt_eq] using hlt
  have hargs2 : (#[.tmp d1] : Array Operand).map (a.put (some d1) v1).eval ++ #[] = #[v1] := by simp [Act.eval, Act.put, hlt']
  rw [hargs2]
  refine hcall.mono ?_
  rintro x2 w2 ⟨v2, ss, rfl, hb2, hp, hrow⟩
  refine hK2 _ _ ?_
  rw [hd2]
  have hss : (ss.mergeSort fun x y => decide (x ≤ y)) = l.map (·.1) := mergeSort_keys (by rw [← intKeys_mapD]; exact hp) hs
  have hlen : ss.length = l.length := by have := hp.length_eq; rw [intKeys_mapD] at this; simpa using this
  rw [hss, hlen] at hrow
  have hst2 : St E M w (a.put (some d1) v1) (s.put (some d1) (.one .junk)) := hst.put (some d1) (l := .one .junk) trivial
  refine h E (M.upd id (v2.ownBlock.getD 0) v2 1) w2 _ hE (St.put ?_ (some d2) (by simp [LV.rel, C.rel, BMap.upd]))
  refine StA.push (hst2.toA.drop id (v2.ownBlock.getD 0) v2 1) drop_free (by rw [hE]; exact Nat.le_of_ble_eq_true hb) (row := none) ⟨hb2.os, hb2.tape, hb2.output, hb2.size, fun i hi _ => hb2.block i hi⟩ (fun k hk => by cases hk) (fun b hb => Av_drop hb) (fun k hk => ?_) fun A' _ => ?_
  · simp only [boxBlk, BMap.upd, if_true] at hk
    rcases hrow.2 with ⟨rfl, _⟩ | ⟨g0, cap, cur, rfl, hbase, hg0, _⟩
    · simp [Value.ownBlock] at hk
    · simp only [Value.ownBlock, Option.some.injEq] at hk
      subst hk
      exact ⟨.inr hbase, (Array.getElem?_eq_some_iff.1 hg0).1⟩
  · have hfl : flat ((l.map (·.1)).map fun x => D.int .i64 x) = (l.map (·.1)).map fun x => D.int .i64 x := by
      generalize l.map (·.1) = ks
      induction ks with
      | nil => rfl
      | cons x r ih => rw [List.map_cons, flat_cons, ih]; rfl
    refine ⟨(l.map (·.1)).map encZ, ?_, fun d hd => ?_, by simp [BMap.upd], fun j c hj => ?_, fun k hk => ?_⟩
    · have := hrow
      refine ⟨by simp, ?_⟩
      rcases hrow.2 with ⟨hv, h0⟩ | ⟨g0, cap, cur, hv, _, r⟩
      · exact .inl ⟨by simp [BMap.upd, hv], by simpa using h0⟩
      · refine .inr ⟨g0, cap, cur, by simp [BMap.upd, hv], Nat.zero_le _, ?_⟩
        simpa using r
    · obtain ⟨x, _, rfl⟩ := List.mem_map.1 hd; rfl
    · rw [hfl, List.getElem?_map, Option.map_eq_some_iff] at hj
      obtain ⟨x, hx, rfl⟩ := hj
      exact ⟨encZ x, by rw [List.getElem?_map, hx]; rfl, .int _ _⟩
    · simp only [BMap.upd, if_true] at hk ⊢
      rw [hk]; rfl
end
end Go.DL

/-
  The plain data of chapter 38 and what its functions compute. Conditions: those of each theorem.
-/
set_option linter.unusedVariables false
set_option linter.unusedSimpArgs false
namespace Go.Proofs.Ythpjlkpkhlkhbaa
open Go.DL
structure Train where
  c : Int
  s : Int
  deriving DecidableEq
structure Fee where
  a : Int
  p : Int
  m : Int
  s : Int
  t : List Train
  deriving DecidableEq
structure Part where
  i : Int
  c : Int
  r : Int
  deriving DecidableEq
def encTrain (x : Train) : D := .agg [.int .i64 x.c, .int .i64 x.s]
def encPart (p : Part) : D := .agg [.int .i64 p.i, .int .i64 p.c, .int .i64 p.r]
def valPart (p : Part) : Value := .agg #[.int .i64 p.i, .int .i64 p.c, .int .i64 p.r]
theorem encTrain_one (l : List Train) : cellsOne (l.map encTrain) := by
  intro d hd c hc; obtain ⟨x, _, rfl⟩ := List.mem_map.1 hd; simp [encTrain, D.cells] at hc; rcases hc with rfl | rfl <;> rfl
theorem encPart_one (l : List Part) : cellsOne (l.map encPart) := by
  intro d hd c hc; obtain ⟨x, _, rfl⟩ := List.mem_map.1 hd; simp [encPart, D.cells] at hc; rcases hc with rfl | rfl | rfl <;> rfl
theorem part_rel (x : Part) (w : World) (A : Nat → Prop) (M : BMap) : LV.rel w A M (.agg [.dat (I x.i), .dat (I x.c), .dat (I x.r)]) (valPart x) := by
  refine ⟨_, rfl, rfl, fun j c hj => ?_⟩
  match j with
  | 0 => cases hj; exact ⟨_, rfl, .int _ _⟩
  | 1 => cases hj; exact ⟨_, rfl, .int _ _⟩
  | 2 => cases hj; exact ⟨_, rfl, .int _ _⟩
  | n + 3 => simp at hj

def chkM (n : Int) : Int := if n > 1125899906842624 ∨ n < -1125899906842624 then 50 else 0
def partM (n k : Int) : Int × Int := if n > 1125899906842624 ∨ n < -1125899906842624 then (0, 50) else if k < 0 ∨ k > 1000 then (0, 1) else ((n * k).tdiv 1000, 0)
def trOK (p : Int) : List Train → Bool
  | [] => true
  | t :: l => if t.c < 0 ∨ t.c ≥ 192 ∨ t.s < 1 ∨ t.s > 12 ∨ t.c ≤ p then false else trOK t.c l
def headOK (f : Fee) : Prop := 0 ≤ f.a ∧ f.a ≤ 1125899906842624 ∧ 0 ≤ f.p ∧ f.p ≤ 1125899906842624 ∧ ((0 ≤ f.m ∧ f.m < 192) ∨ (f.m = -1 ∧ f.s = 0)) ∧ 0 ≤ f.s ∧ f.s ≤ 1000 ∧ f.t.length ≤ 40
instance (f : Fee) : Decidable (headOK f) := by unfold headOK; infer_instance
def chk (f : Fee) : Int := if headOK f then (if trOK (-1) f.t then 0 else 380) else 380
def solid (f : Fee) : Int := if f.t.length = 0 then 0 else (partM f.a 50).1
theorem trOK_stop {l : List Train} {k : Nat} {x : Train} {p : Int} (h : trOK p (l.drop k) = trOK (-1) l) (hx : l[k]? = some x) (hb : x.c < 0 ∨ x.c ≥ 192 ∨ x.s < 1 ∨ x.s > 12 ∨ x.c ≤ p) : trOK (-1) l = false := by
  rw [← h, drop_cons hx, trOK, if_pos hb]
theorem trOK_step {l : List Train} {k : Nat} {x : Train} {p : Int} (h : trOK p (l.drop k) = trOK (-1) l) (hx : l[k]? = some x) (hb : ¬ (x.c < 0 ∨ x.c ≥ 192 ∨ x.s < 1 ∨ x.s > 12 ∨ x.c ≤ p)) : trOK x.c (l.drop (k + 1)) = trOK (-1) l := by
  rw [← h, drop_cons hx, trOK, if_neg hb]
theorem trOK_end {l : List Train} {k : Nat} {p : Int} (h : trOK p (l.drop k) = trOK (-1) l) (hk : l.length ≤ k) : trOK (-1) l = true := by
  rw [← h, List.drop_eq_nil_of_le hk]; rfl
theorem chk_bad {f : Fee} (h : ¬ headOK f) : (380 : Int) = chk f := by rw [chk, if_neg h]
theorem chk_bad2 {f : Fee} (h : trOK (-1) f.t = false) : (380 : Int) = chk f := by rw [chk]; split <;> simp [h]
theorem chk_ok {f : Fee} (h : headOK f) (h2 : trOK (-1) f.t = true) : (0 : Int) = chk f := by rw [chk, if_pos h, if_pos h2]
theorem chk_cases (f : Fee) : chk f = 380 ∨ (chk f = 0 ∧ headOK f ∧ trOK (-1) f.t = true) := by
  unfold chk; split
  · split
    · exact .inr ⟨rfl, by assumption, by assumption⟩
    · exact .inl rfl
  · exact .inl rfl
theorem chkM_cases (n : Int) : (chkM n = 50 ∧ (n > 1125899906842624 ∨ n < -1125899906842624)) ∨ (chkM n = 0 ∧ n ≤ 1125899906842624 ∧ -1125899906842624 ≤ n) := by
  unfold chkM; split
  · exact .inl ⟨rfl, by assumption⟩
  · exact .inr ⟨rfl, by omega, by omega⟩
theorem tdiv_bounds (x : Int) (d : Int) (hd : 0 < d) {m : Int} (h1 : -m ≤ x) (h2 : x ≤ m) : -m ≤ x.tdiv d ∧ x.tdiv d ≤ m := by
  have h := Int.natAbs_tdiv x d
  have h3 : (x.tdiv d).natAbs ≤ x.natAbs := by rw [h]; exact Nat.div_le_self _ _
  omega
theorem part_bounds {n k : Int} (h : chkM n = 0) (h0 : 0 ≤ k) (h1 : k ≤ 1000) : -1125899906842624000 ≤ n * k ∧ n * k ≤ 1125899906842624000 ∧ -1125899906842624000 ≤ (n * k).tdiv 1000 ∧ (n * k).tdiv 1000 ≤ 1125899906842624000 := by
  have hc := chkM_cases n
  have a1 : n * k ≤ 1125899906842624 * k := Int.mul_le_mul_of_nonneg_right (by omega) h0
  have a2 : -1125899906842624 * k ≤ n * k := Int.mul_le_mul_of_nonneg_right (by omega) h0
  have := tdiv_bounds (n * k) 1000 (by omega) (m := 1125899906842624000) (by omega) (by omega)
  omega
theorem solid_bounds (f : Fee) (h : chk f = 0) : 0 ≤ solid f ∧ solid f ≤ f.a ∧ 0 ≤ f.a ∧ f.a ≤ 1125899906842624 ∧ 0 ≤ f.p ∧ f.p ≤ 1125899906842624 ∧ 0 ≤ f.s ∧ f.s ≤ 1000 ∧ (f.m = -1 ∨ 0 ≤ f.m) := by
  rcases chk_cases f with hc | ⟨_, hh, _⟩
  · omega
  · unfold headOK at hh
    have : 0 ≤ solid f ∧ solid f ≤ f.a := by
      unfold solid partM
      split
      · omega
      · rw [if_neg (by omega), if_neg (by omega)]
        show 0 ≤ (f.a * 50).tdiv 1000 ∧ (f.a * 50).tdiv 1000 ≤ f.a
        rw [Int.tdiv_eq_ediv_of_nonneg (by omega)]
        omega
    omega
/-- What the former club gets, and the error. -/
def profit (f : Fee) : Int × Int := if chk f ≠ 0 then (0, chk f) else if f.m < 0 ∨ f.a - solid f - f.p ≤ 0 then (0, 0) else partM (f.a - solid f - f.p) f.s
theorem partM_two {n k : Int} (h1 : n ≤ 1125899906842624) (h2 : -1125899906842624 ≤ n) (h3 : 0 ≤ k) (h4 : k ≤ 1000) : (partM n k).2 = 0 := by
  rw [partM, if_neg (by omega), if_neg (by omega)]
theorem profit_max {f : Fee} (h : chk f = 0) (hm : f.m ≠ -1) : partM (if f.a - solid f - f.p > 0 then f.a - solid f - f.p else 0) f.s = profit f := by
  have := solid_bounds f h
  have e : profit f = if f.m < 0 ∨ f.a - solid f - f.p ≤ 0 then (0, 0) else partM (f.a - solid f - f.p) f.s := by rw [profit, if_neg (by omega)]
  rw [e]
  by_cases hx : f.a - solid f - f.p ≤ 0
  · rw [if_neg (show ¬ (f.a - solid f - f.p > 0) by omega), if_pos (.inr hx), partM, if_neg (by omega), if_neg (by omega)]; simp
  · rw [if_pos (show f.a - solid f - f.p > 0 by omega), if_neg (by omega)]
/-- What a club gets by a list. -/
def amt (c : Int) : List Pay → Int
  | [] => 0
  | p :: l => if p.c = c then p.a else amt c l
end Go.Proofs.Ythpjlkpkhlkhbaa
