/-
  Texts that belong together, one behind the other; what each of them proves, and under which conditions, its own heading says.
-/
import Derived.StillTail
import Derived.Laws.CopyRow
import Derived.Lib.Overlaps
import Derived.ProofKit
import Derived.Handed
import Derived.SizedLaws
import Derived.Deep.Slices
import Derived.RangeFuncNested
import Derived.Maps.OwnSet
import Derived.Lib.SlKeysI
import Derived.ArgAppend
import Derived.Shelf.SortM.Plain
import Derived.Shelf.SortM.SortNone
import Derived.Maps.RangeWalk
import Derived.Lib.ConvBytes
import Derived.Lib.SlBytesConst
import Derived.Shelf.Strconv.AppendUint10
import Derived.Shelf.Strconv.Itoa4
import Derived.Shelf.Strconv.ParseIntPublic10
import Derived.Test.YtimalbkjflfdoaaDoorRows
import Derived.Test.YtimalbkjflfdoaaDoorCa
set_option linter.unusedVariables false
set_option linter.unusedSimpArgs false
namespace Go.DL
open Go.RowKit

def dres (P : Program) (s : DS) : List ResultVar → Option (List LV)
  | [] => some []
  | .tmp t :: r => (dres P s r).map (s.ev (.tmp t) :: ·)
  | .cell a t :: r => match s.ev (.tmp a) with
    | .one (.ref id off) => match s.bx.lookup id with
      | some (.var cs) => match loadC P t cs off, dres P s r with
        | some l, some ls => some (l :: ls)
        | _, _ => none
      | _ => none
    | .one (.dat (.ptr ds)) => match loadC P t (ds.map .dat) 0, dres P s r with
      | some l, some ls => some (l :: ls)
      | _, _ => none
    | _ => none

def C.fits (bx : List (Nat × Box)) : C → D → Prop
  | .dat d', d => d' = d ∨ (d' = .con (.slice none 0 0) ∧ ∃ sz, d = .sl sz [])
  | .own id, d => match bx.lookup id with
    | some (.row _ sz es) => d = .sl sz es
    | _ => False
  | .fn f caps, d => match capsD caps with
    | some ds => d = .fn f ds
    | none => False
  | _, _ => False

def cellsFit (bx : List (Nat × Box)) : List C → List D → Prop
  | [], [] => True
  | c :: cs, d :: ds => c.fits bx d ∧ cellsFit bx cs ds
  | _, _ => False

def LV.fits (bx : List (Nat × Box)) : LV → D → Prop
  | .one c, d => c.fits bx d
  | .agg cs, .agg ds => cellsFit bx cs ds
  | _, _ => False

def listFit (bx : List (Nat × Box)) : List LV → List D → Prop
  | [], [] => True
  | l :: ls, d :: ds => l.fits bx d ∧ listFit bx ls ds
  | _, _ => False

def resFit (bx : List (Nat × Box)) (ls : List LV) (d : D) : Prop :=
  match ls, d with
  | [l], d => l.fits bx d
  | ls, .tup ds => listFit bx ls ds
  | _, _ => False

def retPost (P : Program) (fn : Func) (d : D) : DX → DS → Prop
  | .normal, s => ∃ ls, dres P s fn.results.toList = some ls ∧ resFit s.bx ls d
  | .ret, s => ∃ ls, dres P s fn.results.toList = some ls ∧ resFit s.bx ls d
  | _, _ => False

section
variable {P : Program} {w : World} {A : Nat → Prop} {M : BMap}

theorem C.fits_rel {E : Env} {bx : List (Nat × Box)} {c : C} {d : D} {v : Value} (hbx : Boxes E M w bx) (h : c.fits bx d) (hc : C.rel w (Av E.A0 M bx) M c v) : RelD w E.A0 d v := by
  have hsub : Keeps w (Av E.A0 M bx) w E.A0 := Keeps.sub fun b hb => .inl hb
  cases c with
  | dat d' =>
    rcases h with h | ⟨h1, sz, h2⟩
    · subst h
      exact RelD.mono hsub hc
    · subst h1 h2
      simp only [C.rel] at hc
      cases hc
      exact .sl0 _ _ _ (fun _ => rfl)
  | own id =>
    simp only [C.fits] at h
    split at h
    · rename_i e sz es hl
      subst h
      simp only [C.rel] at hc
      subst hc
      have hm := lookup_mem hl
      refine row_rel E.A0 (fun b hb => ⟨.inl hb, fun hob => ?_⟩) (hbx.ok id _ hm)
      have h1 := (hbx.new _ hm b (by simpa [boxBlk] using hob)).1
      have h2 := hbx.foreign b hb
      rcases h1 with h1 | h1
      · exact h2.2 h1
      · omega
    · cases h
  | fn f caps =>
    simp only [C.fits] at h
    split at h
    · rename_i ds hds
      subst h
      have : RelD w (Av E.A0 M bx) (.fn f ds) v := (C.toD_rel (bx := bx) (c := .fn f caps) (by simp [C.toD, hds]) hc hbx.ok).1 rfl
      exact this.mono hsub
    · cases h
  | ref id off => cases h
  | rref id i off => cases h
  | part id i off => cases h
  | junk => cases h

theorem cellsFit_rel {E : Env} {bx : List (Nat × Box)} (hbx : Boxes E M w bx) : ∀ (cs : List C) (ds : List D), cellsFit bx cs ds → ∀ (f : Nat → Option Value), (∀ (j : Nat) (c : C), cs[j]? = some c → ∃ u, f j = some u ∧ C.rel w (Av E.A0 M bx) M c u) →
    ds.length = cs.length ∧ ∀ (j : Nat) (d : D), ds[j]? = some d → ∃ u, f j = some u ∧ RelD w E.A0 d u
  | [], [], _, f, _ => by simp
  | [], _ :: _, h, _, _ => h.elim
  | _ :: _, [], h, _, _ => h.elim
  | c :: cs, d :: ds, h, f, hf => by
    obtain ⟨h3, h4⟩ := cellsFit_rel hbx cs ds h.2 (fun j => f (j + 1)) (fun j c hc => hf (j + 1) c (by simpa using hc))
    refine ⟨by simp [h3], fun j e he => ?_⟩
    cases j with
    | zero =>
      simp at he; subst he
      obtain ⟨u, hu, hr⟩ := hf 0 c rfl
      exact ⟨u, hu, C.fits_rel hbx h.1 hr⟩
    | succ j => exact h4 j e (by simpa using he)

theorem LV.fits_rel {E : Env} {bx : List (Nat × Box)} {l : LV} {d : D} {v : Value} (hbx : Boxes E M w bx) (h : l.fits bx d) (hl : LV.rel w (Av E.A0 M bx) M l v) : RelD w E.A0 d v := by
  cases l with
  | one c => exact C.fits_rel hbx h hl
  | agg cs =>
    cases d <;> simp only [LV.fits] at h
    rename_i ds
    obtain ⟨arr, rfl, h1, h2⟩ := hl
    obtain ⟨h3, h4⟩ := cellsFit_rel hbx cs ds h (fun j => arr[j]?) h2
    refine .agg ds arr (by omega) (fun j => arr.getD j undef) (fun j c hj => ?_) (fun j c hj => ?_)
    · obtain ⟨u, hu, _⟩ := h4 j c hj; simp [hu]
    · obtain ⟨u, hu, hr⟩ := h4 j c hj; simpa [hu] using hr
  | tup ps => cases d <;> simp [LV.fits] at h

theorem listFit_rel {E : Env} {bx : List (Nat × Box)} (hbx : Boxes E M w bx) : ∀ (ls : List LV) (ds : List D), listFit bx ls ds → ∀ (f : Nat → Option Value), (∀ (j : Nat) (l : LV), ls[j]? = some l → ∃ u, f j = some u ∧ LV.rel w (Av E.A0 M bx) M l u) →
    ds.length = ls.length ∧ ∀ (j : Nat) (d : D), ds[j]? = some d → ∃ u, f j = some u ∧ RelD w E.A0 d u
  | [], [], _, f, _ => by simp
  | [], _ :: _, h, _, _ => h.elim
  | _ :: _, [], h, _, _ => h.elim
  | c :: cs, d :: ds, h, f, hf => by
    obtain ⟨h3, h4⟩ := listFit_rel hbx cs ds h.2 (fun j => f (j + 1)) (fun j c hc => hf (j + 1) c (by simpa using hc))
    refine ⟨by simp [h3], fun j e he => ?_⟩
    cases j with
    | zero =>
      simp at he; subst he
      obtain ⟨u, hu, hr⟩ := hf 0 c rfl
      exact ⟨u, hu, LV.fits_rel hbx h.1 hr⟩
    | succ j => exact h4 j e (by simpa using he)

def resOne (tmps : Array Value) : ResultVar → Sem Value
  | .tmp t => pure (tmps.getD t undef)
  | .cell a t => do loadVar t (← asAddr (tmps.getD a undef))

theorem dres_run {E : Env} {a : Act} {s : DS} (hst : St E M w a s) : ∀ (rs : List ResultVar) (ls : List LV), dres P s rs = some ls →
    ∃ vs : List Value, (rs.mapM (resOne a.tmps)).run P w = .ok vs w ∧ vs.length = ls.length ∧ ∀ (j : Nat) (l : LV), ls[j]? = some l → ∃ u, vs[j]? = some u ∧ LV.rel w (Av E.A0 M s.bx) M l u
  | [], ls, h => by simp [dres] at h; subst h; exact ⟨[], by simp, rfl, by simp⟩
  | .tmp t :: r, ls, h => by
    simp only [dres, Option.map_eq_some_iff] at h
    obtain ⟨ls', h1, rfl⟩ := h
    obtain ⟨vs, h2, h3, h4⟩ := dres_run hst r ls' h1
    refine ⟨a.tmps.getD t undef :: vs, by simp [List.mapM_cons, resOne, h2], by simp [h3], fun j l hj => ?_⟩
    cases j with
    | zero => simp at hj; subst hj; exact ⟨_, rfl, ev_rel hst.size hst.slots (.tmp t)⟩
    | succ j => exact h4 j l (by simpa using hj)
  | .cell x t :: r, ls, h => by
    unfold dres at h
    split at h
    · rename_i id off hx
      split at h
      · rename_i cs hl
        split at h
        · rename_i l ls' h1 h2
          cases h
          obtain ⟨vs, h3, h4, h5⟩ := dres_run hst r ls' h2
          have hxr := ev_rel hst.size hst.slots (.tmp x)
          rw [hx] at hxr
          simp only [LV.rel, C.rel, Act.eval] at hxr
          obtain ⟨arr, T, hg, hc⟩ := hst.boxes.ok id _ (lookup_mem hl)
          obtain ⟨v, hv, hr⟩ := loadC_sound (P := P) (w := w) (A := Av E.A0 M s.bx) (M := M) (b := M.blk id) (o := 0) h1 (fun j c hj => by
            obtain ⟨v, hv, hr⟩ := hc.2 j c hj
            exact ⟨v, by rw [cell_of_row w _ _ arr T (0, 0) hg, Nat.zero_add]; exact hv, hr⟩)
          have hone : (resOne a.tmps (.cell x t)).run P w = .ok v w := by
            simp only [Instr.loadAt, Instr.sureAddr, Sem.run_bind, Sem.run_pure, Result.andThen_ok, Nat.zero_add] at hv
            simp only [resOne, hxr, asAddr, Sem.run_bind, Sem.run_pure, Result.andThen_ok, hv]
          refine ⟨v :: vs, by simp [List.mapM_cons, hone, h3], by simp [h4], fun j l' hj => ?_⟩
          cases j with
          | zero => simp at hj; subst hj; exact ⟨_, rfl, hr⟩
          | succ j => exact h5 j l' (by simpa using hj)
        · cases h
      · cases h
    · rename_i ds hx
      split at h
      · rename_i l ls' h1 h2
        cases h
        obtain ⟨vs, h3, h4, h5⟩ := dres_run hst r ls' h2
        have hxr := ev_rel hst.size hst.slots (.tmp x)
        rw [hx] at hxr
        simp only [LV.rel, C.rel, Act.eval] at hxr
        obtain ⟨b, off, hab⟩ := ptr_addr hxr
        rw [hab] at hxr
        obtain ⟨v, hv, hr⟩ := loadC_sound (P := P) (w := w) (A := Av E.A0 M s.bx) (M := M) (b := b) (o := off) h1 (fun j c hj => by
          simp only [List.getElem?_map, Option.map_eq_some_iff] at hj
          obtain ⟨d, hd, rfl⟩ := hj
          exact ptr_cells hxr j d hd)
        have hone : (resOne a.tmps (.cell x t)).run P w = .ok v w := by
          simp only [Instr.loadAt, Instr.sureAddr, Sem.run_bind, Sem.run_pure, Result.andThen_ok, Nat.add_zero] at hv
          simp only [resOne, hab, asAddr, Sem.run_bind, Sem.run_pure, Result.andThen_ok, hv]
        refine ⟨v :: vs, by simp [List.mapM_cons, hone, h3], by simp [h4], fun j l' hj => ?_⟩
        cases j with
        | zero => simp at hj; subst hj; exact ⟨_, rfl, hr⟩
        | succ j => exact h5 j l' (by simpa using hj)
      · cases h
    · cases h

theorem results_run (fn : Func) (tmps : Array Value) (vs : List Value) (h : (fn.results.toList.mapM (resOne tmps)).run P w = .ok vs w) : (results fn tmps).run P w = .ok (if h : vs.toArray.size = 1 then vs.toArray[0] else .tuple vs.toArray) w := by
  have e : results fn tmps = (do let vs ← fn.results.mapM (resOne tmps); pure (if h : vs.size = 1 then vs[0] else .tuple vs)) := by
    unfold results
    rfl
  rw [e, Sem.run_bind, Array.mapM_eq_mapM_toList, Sem.run_map, h]
  rfl

theorem Ret.of_T {f : FuncId} {fn : Func} {c : Code} {ds : List D} {d : D} (hf : P.funcs[f]? = some fn) (hname : (fn.name == "runtime.NumGoroutine") = false) (hb : fn.body = some c)
    (h : T P 0 c (retPost P fn d) ⟨ds.map ofD ++ List.replicate (fn.ntmps - ds.length) (.one .junk), []⟩) : Ret P f ds d := by
  refine ⟨⟨fn, hf, hname, by rw [hb]; rfl⟩, fun w A vs hA hsz hvs => ?_⟩
  refine calls_of_wpM hf hb ?_
  let E : Env := ⟨w, A, 0, ⟨fun _ => 0, fun _ => undef, fun _ => 0⟩, fun _ => False, fun _ => False, []⟩
  have hst : St E E.M0 w { tmps := vs ++ Array.replicate (fn.ntmps - vs.size) undef, defers := [] } ⟨ds.map ofD ++ List.replicate (fn.ntmps - ds.length) (.one .junk), []⟩ := by
    refine ⟨rfl, by simp [hsz], fun t l hl => ?_, ⟨by simp, by simp, by simp, by simp, fun b hb => ⟨hA b hb, fun x => x⟩, Fr.refl _ _, by simp⟩⟩
    rw [List.getElem?_append] at hl
    split at hl
    · rename_i hlt
      simp only [List.getElem?_map, Option.map_eq_some_iff] at hl
      obtain ⟨d', hd', rfl⟩ := hl
      obtain ⟨u, hu, hr⟩ := hvs t d' hd'
      have hlt' : t < vs.size := by rw [hsz]; simpa using hlt
      have : (vs ++ Array.replicate (fn.ntmps - vs.size) undef).getD t undef = u := by
        rw [Array.getD_eq_getD_getElem?, Array.getElem?_append_left hlt', hu]; rfl
      rw [this]
      refine ofD_rel (hr.mono (Keeps.sub fun b hb => ?_))
      rcases hb with hb | ⟨p, hp, _⟩
      · exact hb
      · cases hp
    · rw [List.getElem?_replicate] at hl
      split at hl
      · cases hl; trivial
      · cases hl
  refine wp_mono (h E E.M0 w _ rfl hst) ?_
  rintro e a' wE ⟨E1, hext, x, s', M', hx, hq, hstE⟩
  have key : ∀ w', St E M' w' { a' with defers := [] } s' → (∃ ls, dres P s' fn.results.toList = some ls ∧ resFit s'.bx ls d) → ∃ v, (results fn a'.tmps).run P w' = .ok v w' ∧ ∃ u, Ending.returned v = .returned u ∧ Below w.heap.size w w' ∧ RelD w' A d u := by
    rintro w' hst' ⟨ls, h1, h2⟩
    obtain ⟨vs', h3, h4, h5⟩ := dres_run (P := P) hst' _ ls h1
    refine ⟨_, results_run fn a'.tmps vs' h3, _, rfl, hst'.boxes.frame.toBelow, ?_⟩
    unfold resFit at h2
    split at h2
    · rename_i l
      obtain ⟨u, hu, hr⟩ := h5 0 l rfl
      have hl1 : vs'.length = 1 := by rw [h4]; rfl
      obtain ⟨x, rfl⟩ := List.length_eq_one_iff.1 hl1
      simp at hu
      subst hu
      simpa using LV.fits_rel hst'.boxes h2 hr
    · rename_i ds' hne
      obtain ⟨h6, h7⟩ := listFit_rel hst'.boxes ls ds' h2 (fun j => vs'[j]?) h5
      have hne1 : vs'.toArray.size ≠ 1 := by
        intro he
        have : ls.length = 1 := by rw [← h4]; simpa using he
        obtain ⟨l, rfl⟩ := List.length_eq_one_iff.1 this
        exact hne l rfl
      rw [dif_neg hne1]
      refine .tup ds' vs'.toArray (by simp; omega) (fun j => vs'.getD j undef) (fun j c hj => ?_) (fun j c hj => ?_)
      · obtain ⟨u, hu, _⟩ := h7 j c hj
        simp [List.getD, hu]
      · obtain ⟨u, hu, hr⟩ := h7 j c hj
        simpa [List.getD, hu] using hr
    · cases h2
  have fin : (∃ ls, dres P s' fn.results.toList = some ls ∧ resFit s'.bx ls d) → ∃ w2, takeAll P a'.defers wE w2 ∧ ∃ v, (results fn a'.tmps).run P w2 = .ok v w2 ∧ ∃ u, Ending.returned v = .returned u ∧ Below w.heap.size w w2 ∧ RelD w2 A d u := by
    intro hq
    obtain ⟨w2, ht, hst'⟩ := St.atEnd (P := P) hext rfl hst.boxes.foreign hstE
    exact ⟨w2, ht, key _ hst' hq⟩
  cases x with
  | normal =>
    cases e <;> simp only [XRel] at hx
    exact ⟨.inl rfl, fin hq⟩
  | ret =>
    cases e <;> simp only [XRel] at hx
    exact ⟨.inr rfl, fin hq⟩
  | exit id => exact hq.elim
  | panic d => exact hq.elim

theorem DS.le_drop (s : DS) (id : Nat) : s.Le (s.drop id) := by
  intro E M w a h
  refine ⟨M.upd id 0 undef 0, (h.toA.drop id 0 undef 0).toSt fun b hb => Av_drop hb⟩
end
end Go.DL

namespace Go.DL
open Go.RowKit

def pexec (P : Program) (ops : Array Oper) : List Oper → List Hint → DS → Option (Prop × DS)
  | [], _, s => some (True, s)
  | o :: os, hs, s =>
    match wantB ops o s (hs.headD {}).g with
    | none => none
    | some (p, false) => match pexec P ops os hs.tail (s.put o.dst UD) with
      | some (q, s') => some (p ∧ q, s')
      | none => none
    | some (p, true) => match pval P s.ev s.bx (hs.headD {}).d o with
      | none => none
      | some (r, lv) => match pexec P ops os hs.tail (s.put o.dst lv) with
        | some (q, s') => some (p ∧ r ∧ q, s')
        | none => none

def dexecDraw (P : Program) (base : Nat) (l : List Oper) (n : Nat) (hs : List Hint) (s : DS) : Option (Prop × DS) :=
  match pexec P l.toArray (l.take n) hs s with
  | some (p, s1) => match dexec P base l.toArray (l.drop n) (hs.drop n) s1 with
    | some (q, s2) => some (p ∧ q, s2)
    | none => none
  | none => none

def headListed (n m : Nat) : Array Bool := ((List.replicate n true) ++ (List.replicate (m - n) false)).toArray

def drawOk (ops : Array Oper) (n : Nat) : Bool :=
  Region.noSelect ops && Nat.ble n ops.size &&
  ((List.range n).all fun k => (List.range n).all fun j => Nat.ble j k || Region.waitsFor .any ops j k || (match ops[k]?, ops[j]? with | some x, some y => x.apart ops y | _, _ => false)) &&
  ((List.range n).all fun j => match ops[j]? with | some o => o.after.all fun e => !Region.binds .any e || Nat.blt e.on j | none => false) &&
  (n == ops.size || (Region.sinkB .any ops n && Region.chainB .any ops n)) &&
  Region.seqB .any ops (ops.size - n) n (headListed n ops.size)

section
variable {P : Program} {w : World} {A : Nat → Prop} {M : BMap}

def Good (P : Program) (ops : Array Oper) (s : DS) (o : Oper) (v : LV) : Prop :=
  ∃ g p b, wantB ops o s g = some (p, b) ∧ p ∧ ((b = false ∧ v = UD) ∨ (b = true ∧ ∃ h sd, pval P s.ev s.bx h o = some (sd, v) ∧ sd))

theorem pexec_steps {ops : Array Oper} : ∀ (l : List Oper) (hs : List Hint) (s s' : DS) (side : Prop), pexec P ops l hs s = some (side, s') → side →
    ∃ (v : Nat → LV) (st : Nat → DS), st 0 = s ∧ st l.length = s' ∧ ∀ i o, l[i]? = some o → st (i + 1) = (st i).put o.dst (v i) ∧ Good P ops (st i) o (v i)
  | [], hs, s, s', side, h, _ => by
    simp only [pexec, Option.some.injEq, Prod.mk.injEq] at h
    exact ⟨fun _ => .one .junk, fun _ => s, rfl, h.2, fun i o hi => by simp at hi⟩
  | o :: os, hs, s, s', side, h, hside => by
    unfold pexec at h
    have cons : ∀ (v0 : LV) (q : Prop), pexec P ops os hs.tail (s.put o.dst v0) = some (q, s') → q → Good P ops s o v0 →
        ∃ (v : Nat → LV) (st : Nat → DS), st 0 = s ∧ st (o :: os).length = s' ∧ ∀ i o', (o :: os)[i]? = some o' → st (i + 1) = (st i).put o'.dst (v i) ∧ Good P ops (st i) o' (v i) := by
      intro v0 q hq hqs hg
      obtain ⟨v, st, h1, h2, h3⟩ := pexec_steps os hs.tail _ s' q hq hqs
      refine ⟨fun i => match i with | 0 => v0 | i + 1 => v i, fun i => match i with | 0 => s | i + 1 => st i, rfl, h2, fun i o' hi => ?_⟩
      cases i with
      | zero => simp at hi; subst hi; exact ⟨h1, hg⟩
      | succ i => exact h3 i o' (by simpa using hi)
    split at h
    · cases h
    · rename_i p hw
      split at h
      · rename_i q s2 h2
        simp only [Option.some.injEq, Prod.mk.injEq] at h
        obtain ⟨h1, rfl⟩ := h
        rw [← h1] at hside
        exact cons _ q h2 hside.2 ⟨_, p, false, hw, hside.1, .inl ⟨rfl, rfl⟩⟩
      · cases h
    · rename_i p hw
      split at h
      · cases h
      · rename_i r lv h3
        split at h
        · rename_i q s2 h2
          simp only [Option.some.injEq, Prod.mk.injEq] at h
          obtain ⟨h1, rfl⟩ := h
          rw [← h1] at hside
          exact cons _ q h2 hside.2.2 ⟨_, p, true, hw, hside.1, .inr ⟨rfl, _, r, h3, hside.2.1⟩⟩
        · cases h

def view (dst : Nat → Option Tmp) (v : Nat → LV) (sl : List LV) (X : Nat → Bool) : Nat → Tmp → Option LV
  | 0, t => sl[t]?
  | k + 1, t => if X k = true ∧ dst k = some t ∧ t < sl.length then some (v k) else view dst v sl X k t

theorem put_get (s : DS) (d : Option Tmp) (l : LV) (t : Nat) : (s.put d l).sl[t]? = if d = some t ∧ t < s.sl.length then some l else s.sl[t]? := by
  cases d with
  | none => simp [DS.put]
  | some d =>
    simp only [DS.put, List.getElem?_set]
    by_cases hd : d = t
    · subst hd
      by_cases hl : d < s.sl.length
      · simp [hl]
      · simp [hl]
    · simp [hd]

theorem put_len (s : DS) (d : Option Tmp) (l : LV) : (s.put d l).sl.length = s.sl.length := by
  cases d <;> simp [DS.put]

theorem put_bx (s : DS) (d : Option Tmp) (l : LV) : (s.put d l).bx = s.bx := by
  cases d <;> rfl

theorem view_after {dst : Nat → Option Tmp} {v : Nat → LV} {sl : List LV} {X : Nat → Bool} {i : Nat} (hXi : X i = false) (m : Nat)
    (hlater : ∀ j t, i < j → j < m → dst i = some t → dst j = some t → X j = false) (t : Tmp) :
    view dst v sl (fun j => X j || j == i) m t = if i < m ∧ dst i = some t ∧ t < sl.length then some (v i) else view dst v sl X m t := by
  induction m with
  | zero => simp [view]
  | succ m ih =>
    have ih' := ih (fun j t h1 h2 => hlater j t h1 (by omega))
    simp only [view]
    rw [ih']
    by_cases hm : m = i
    · subst hm
      simp only [beq_self_eq_true, Bool.or_true, true_and, hXi, Bool.false_eq_true, false_and, if_false, Nat.lt_irrefl, Nat.lt_succ_self]
    · have hbe : (m == i) = false := by simpa using hm
      simp only [hbe, Bool.or_false]
      by_cases hlt : i < m
      · have e1 : (i < m + 1) = True := by simp; omega
        have e2 : (i < m) = True := by simp; exact hlt
        simp only [e1, e2, true_and]
        by_cases hd : dst i = some t ∧ t < sl.length
        · simp only [if_pos hd]
          by_cases hx : X m = true ∧ dst m = some t ∧ t < sl.length
          · have := hlater m t hlt (by omega) hd.1 hx.2.1
            rw [this] at hx
            cases hx.1
          · rw [if_neg hx]
        · simp only [if_neg hd]
      · have e1 : ¬ i < m + 1 := by omega
        simp [hlt, e1]

theorem view_same {dst : Nat → Option Tmp} {v : Nat → LV} {sl : List LV} {X : Nat → Bool} {i : Nat} {t : Tmp} (hXi : X i = false) (m : Nat)
    (hbefore : ∀ j, j < i → dst j = some t → X j = true) (hafter : ∀ j, i < j → j < m → dst j = some t → X j = false) :
    view dst v sl X m t = view dst v sl (fun _ => true) (min m i) t := by
  induction m with
  | zero => simp [view]
  | succ m ih =>
    have ih' := ih (fun j h1 h2 => hafter j h1 (by omega))
    simp only [view]
    rw [ih']
    by_cases hlt : m < i
    · rw [show min (m + 1) i = min m i + 1 by omega, show min m i = m by omega]
      simp only [view]
      by_cases hd : dst m = some t
      · simp [hd, hbefore m hlt hd]
      · simp [hd]
    · rw [show min (m + 1) i = min m i by omega]
      by_cases hm : m = i
      · subst hm; simp [hXi]
      · by_cases hd : dst m = some t
        · simp [hafter m (by omega) (by omega) hd]
        · simp [hd]

theorem wantB_sound' {ops : Array Oper} {o : Oper} {s : DS} {a : Act} {g b : Bool} {p : Prop} (h : wantB ops o s g = some (p, b)) (hp : p) (hsz : a.tmps.size = s.sl.length)
    (hg : ∀ t ∈ o.looksAt ops, ∀ l, s.sl[t]? = some l → LV.rel w A M l (a.tmps.getD t undef)) : Region.wanted o (yielded ops a.tmps) = b := by
  unfold wantB at h
  unfold Region.wanted
  split at h
  · rename_i hgd
    cases h
    rw [hgd]
  · rename_i j want hgd
    rw [hgd]
    split at h
    · rename_i t ht
      split at h
      · rename_i bb hsl
        simp only [Option.some.injEq, Prod.mk.injEq] at h
        obtain ⟨h1, rfl⟩ := h
        rw [← h1] at hp
        have hr := hg t (by simp [Oper.looksAt, hgd, ht]) _ hsl
        simp only [LV.rel, C.rel] at hr
        have hv := relD_bool hr
        have hlt : t < a.tmps.size := by rw [hsz]; exact (List.getElem?_eq_some_iff.1 hsl).1
        have hy : yielded ops a.tmps j = some bb := by
          unfold yielded
          rw [ht]
          simp only [Option.bind_some]
          rw [Array.getElem?_eq_getElem hlt]
          simp only [Array.getD_eq_getD_getElem?, Array.getElem?_eq_getElem hlt, Option.getD_some] at hv
          rw [hv]
        simp only [hy]
        rw [← hp]
        cases bb <;> cases want <;> rfl
      · rename_i hsl
        simp only [Option.some.injEq, Prod.mk.injEq] at h
        obtain ⟨_, rfl⟩ := h
        have hr := hg t (by simp [Oper.looksAt, hgd, ht]) _ hsl
        simp only [LV.rel, C.rel] at hr
        have hlt : t < a.tmps.size := by rw [hsz]; exact (List.getElem?_eq_some_iff.1 hsl).1
        have hy : yielded ops a.tmps j = none := by
          unfold yielded
          rw [ht]
          simp only [Option.bind_some]
          rw [Array.getElem?_eq_getElem hlt]
          simp only [Array.getD_eq_getD_getElem?, Array.getElem?_eq_getElem hlt, Option.getD_some] at hr
          generalize a.tmps[t] = v at hr
          cases hr
          rfl
        simp only [hy]
        rfl
      · cases h
    · cases h

theorem listed_eq {n m : Nat} {listed : Array Bool} (hs : listed.size = m) (hn : n ≤ m) (h1 : ∀ i, i < n → listed.getD i false = true) (h2 : ∀ i, n ≤ i → i < m → listed.getD i true = false) : listed = headListed n m := by
  apply Array.ext
  · simp [headListed, hs]; omega
  · intro i hi1 hi2
    have hv : listed.getD i false = listed[i] := by simp [hi1]
    have hv2 : listed.getD i true = listed[i] := by simp [hi1]
    simp only [headListed, List.getElem_toArray, List.getElem_append]
    by_cases hin : i < n
    · rw [dif_pos (by simpa using hin)]
      rw [← hv, h1 i hin]; simp
    · rw [dif_neg (by simpa using hin)]
      rw [← hv2, h2 i (by omega) (by omega)]; simp

def todo (n : Nat) (listed : Array Bool) : Nat := ((List.range n).filter fun i => !listed.getD i false).length

theorem todo_set {n i : Nat} {listed : Array Bool} (hin : i < n) (hs : i < listed.size) (hl : listed.getD i false = false) : todo n listed = todo n (listed.setIfInBounds i true) + 1 := by
  unfold todo
  have key : ∀ (l : List Nat), l.Nodup → i ∈ l → (l.filter fun k => !listed.getD k false).length = (l.filter fun k => !(listed.setIfInBounds i true).getD k false).length + 1 := by
    intro l
    induction l with
    | nil => intro _ h; cases h
    | cons x l ih =>
      intro hnd hm
      obtain ⟨hx, hnd'⟩ := List.nodup_cons.1 hnd
      by_cases hxi : x = i
      · subst hxi
        have e1 : (listed.setIfInBounds x true).getD x false = true := by simp [hs]
        have hsame : (l.filter fun k => !listed.getD k false) = (l.filter fun k => !(listed.setIfInBounds x true).getD k false) := by
          refine List.filter_congr fun k hk => ?_
          have hne : x ≠ k := fun e => hx (e ▸ hk)
          rw [getD_set_ne false hne]
        rw [List.filter_cons, List.filter_cons, e1, hl, hsame]
        simp
      · have hm' : i ∈ l := by
          rcases List.mem_cons.1 hm with h | h
          · exact absurd h.symm hxi
          · exact h
        have := ih hnd' hm'
        rw [List.filter_cons, List.filter_cons, getD_set_ne false (fun e => hxi e.symm)]
        split
        · rw [List.length_cons, List.length_cons, this]
        · exact this
  exact key _ List.nodup_range (List.mem_range.2 hin)

theorem todo_zero {n : Nat} {listed : Array Bool} (h : todo n listed = 0) : ∀ i, i < n → listed.getD i false = true := by
  intro i hi
  unfold todo at h
  have := List.eq_nil_of_length_eq_zero h
  have h2 := List.filter_eq_nil_iff.1 this i (List.mem_range.2 hi)
  simpa using h2

theorem exists_todo {n : Nat} {listed : Array Bool} {f : Nat} (h : todo n listed = f + 1) : ∃ i, i < n ∧ listed.getD i false = false ∧ ∀ j, j < i → listed.getD j false = true := by
  have hex : ∃ i, i < n ∧ listed.getD i false = false := by
    unfold todo at h
    have hne : ((List.range n).filter fun i => !listed.getD i false) ≠ [] := by intro e; rw [e] at h; cases h
    obtain ⟨x, hx⟩ := List.exists_mem_of_ne_nil _ hne
    simp only [List.mem_filter, List.mem_range, Bool.not_eq_true'] at hx
    exact ⟨x, hx.1, hx.2⟩
  have key : ∀ k, (∃ i, i ≤ k ∧ i < n ∧ listed.getD i false = false) → ∃ i, i < n ∧ listed.getD i false = false ∧ ∀ j, j < i → listed.getD j false = true := by
    intro k
    induction k with
    | zero =>
      rintro ⟨i, hi, h1, h2⟩
      exact ⟨i, h1, h2, fun j hj => by omega⟩
    | succ k ih =>
      rintro ⟨i, hi, h1, h2⟩
      by_cases hlow : ∃ i', i' ≤ k ∧ i' < n ∧ listed.getD i' false = false
      · exact ih hlow
      · refine ⟨i, h1, h2, fun j hj => ?_⟩
        cases hg : listed.getD j false with
        | true => rfl
        | false => exact absurd ⟨j, by omega, by omega, hg⟩ hlow
  obtain ⟨i, h1, h2⟩ := hex
  exact key i ⟨i, Nat.le_refl _, h1, h2⟩

theorem T_drawTL {base id : Nat} {l : List Oper} {Q : DX → DS → Prop} {s : DS} (n : Nat) (hs : List Hint) (s1 : DS) (p : Prop) (hm : P.follows .mixedOrders = true) (hok : drawOk l.toArray n = true)
    (hp : pexec P l.toArray (l.take n) hs s = some (p, s1)) (hside : p) (htail : TL P base l.toArray (l.drop n) Q s1) : T P base (.region id l.toArray true) Q s := by
  intro E M w0 a0 hbase hst0
  obtain ⟨v, st, hst00, hstn, hsteps⟩ := pexec_steps _ _ _ _ _ hp hside
  simp only [drawOk, Bool.and_eq_true] at hok
  obtain ⟨⟨⟨⟨⟨hsel, hnle⟩, hpairs⟩, hback⟩, hsink⟩, hseq⟩ := hok
  have hnle' : n ≤ l.length := by simpa using Nat.le_of_ble_eq_true hnle
  have htl : (l.take n).length = n := by simp; omega
  rw [htl] at hstn
  have hget : ∀ i, i < n → ∃ o, l[i]? = some o ∧ st (i + 1) = (st i).put o.dst (v i) ∧ Good P l.toArray (st i) o (v i) := by
    intro i hi
    have hlt : i < l.length := by omega
    refine ⟨l[i], List.getElem?_eq_getElem hlt, hsteps i l[i] ?_⟩
    rw [List.getElem?_take, if_pos hi, List.getElem?_eq_getElem hlt]
  let dst : Nat → Option Tmp := fun i => (l[i]?).bind (·.dst)
  have hstsl : ∀ i, i ≤ n → (st i).sl.length = s.sl.length ∧ (st i).bx = s.bx ∧ ∀ t, (st i).sl[t]? = view dst v s.sl (fun _ => true) i t := by
    intro i
    induction i with
    | zero => intro _; rw [hst00]; exact ⟨rfl, rfl, fun t => rfl⟩
    | succ i ih =>
      intro hi
      obtain ⟨h1, h2, h3⟩ := ih (by omega)
      obtain ⟨o, ho, he, _⟩ := hget i (by omega)
      rw [he]
      refine ⟨by rw [put_len]; exact h1, by rw [put_bx]; exact h2, fun t => ?_⟩
      rw [put_get, h1, h3]
      simp [view, dst, ho]
  have hpair : ∀ k j, k < n → j < n → k < j → ∀ x y, l[k]? = some x → l[j]? = some y → Region.waitsFor .any l.toArray j k = true ∨ x.apart l.toArray y = true := by
    intro k j hk hj hkj x y hx hy
    have h1 := List.all_eq_true.1 hpairs k (List.mem_range.2 hk)
    have h2 := List.all_eq_true.1 h1 j (List.mem_range.2 hj)
    simp only [Bool.or_eq_true] at h2
    rcases h2 with (h2 | h2) | h2
    · have := Nat.le_of_ble_eq_true h2; omega
    · exact .inl h2
    · simp only [List.getElem?_toArray, hx, hy] at h2
      exact .inr h2
  refine wp_region_any hm ?_
  -- whatever order, from any state that is reached
  have head : ∀ (f : Nat) (listed : Array Bool) (a : Act) (w : World), todo n listed = f → HeadInv .any l.toArray n listed → a.defers = E.defs → a.tmps.size = s.sl.length →
      (∀ t lv, view dst v s.sl (fun j => listed.getD j false) n t = some lv → LV.rel w (Av E.A0 M s.bx) M lv (a.tmps.getD t undef)) → Boxes E M w s.bx →
      wpAny P .any l.toArray (Lift E Q) (f + (l.length - n)) listed a w := by
    intro f
    induction f with
    | zero =>
      intro listed a w htodo inv hdef hsz hslots hbx
      have hall := todo_zero htodo
      have hlist : listed = headListed n l.toArray.size := listed_eq inv.size (by simpa using hnle') hall (fun i h1 h2 => inv.tail i h1 h2)
      rw [Nat.zero_add]
      have hstn' : St E M w a s1 := by
        rw [← hstn]
        obtain ⟨h1, h2, h3⟩ := hstsl n (Nat.le_refl _)
        refine ⟨hdef, by rw [hsz, h1], fun t lv hlv => ?_, by rw [h2]; exact hbx⟩
        rw [h2]
        rw [h3] at hlv
        refine hslots t lv ?_
        have key : ∀ m, m ≤ n → view dst v s.sl (fun j => listed.getD j false) m t = view dst v s.sl (fun _ => true) m t := by
          intro m
          induction m with
          | zero => intro _; rfl
          | succ m ih => intro hm; simp only [view]; rw [ih (by omega)]; simp only [hall m (by omega)]
        rw [key n (Nat.le_refl _)]
        exact hlv
      have hdl : (l.drop n).length = l.length - n := by simp
      have := wpAny_of_seq (md := .any) (ops := l.toArray) (P := P) (Q' := Lift E Q) (l.drop n) n listed a w (fun j => by simp [List.getElem?_drop]) (by rw [hdl, hlist]; simpa using hseq) (htail E M w a hbase hstn')
      rwa [hdl] at this
    | succ f ih =>
      intro listed a w htodo inv hdef hsz hslots hbx
      rw [show f + 1 + (l.length - n) = (f + (l.length - n)) + 1 by omega]
      obtain ⟨i0, hi0, hl0, hbef⟩ := exists_todo htodo
      have hready0 : i0 ∈ Region.ready .any l.toArray listed := by
        obtain ⟨o, ho, _, _⟩ := hget i0 hi0
        refine mem_ready.2 ⟨getD_in (by rw [inv.size]; simp; omega) hl0, o, by simpa using ho, fun e he hbnd => ?_⟩
        have hb := List.all_eq_true.1 hback i0 (List.mem_range.2 hi0)
        simp only [List.getElem?_toArray, ho] at hb
        have := Array.all_eq_true_iff_forall_mem.1 hb e he
        simp only [hbnd, Bool.not_true, Bool.false_or] at this
        exact hbef e.on (by simpa [Nat.blt_eq] using this)
      refine ⟨fun h0 => (by rw [h0] at hready0; cases hready0), fun i hi => ?_⟩
      obtain ⟨hun, o, hoi, hall⟩ := mem_ready.1 hi
      have hisz : i < l.length := by
        have := (Array.getElem?_eq_some_iff.1 hoi).1
        simpa using this
      have hin : i < n := by
        rcases Nat.lt_or_ge i n with h | h
        · exact h
        · rcases Bool.or_eq_true _ _ ▸ hsink with hsink | hsink
          · have : n = l.length := by simpa using hsink
            omega
          · simp only [Bool.and_eq_true] at hsink
            exact absurd hi (tail_waits hsink.1 hsink.2 (by simp; omega) inv _ i0 rfl hi0 (getD_in (by rw [inv.size]; simp; omega) hl0) i h)
      have hXi : listed.getD i false = false := getD_both hun
      have hoi' : l[i]? = some o := by simpa using hoi
      obtain ⟨o', ho', hst1, hgood⟩ := hget i hin
      have : o' = o := Option.some.inj (ho'.symm.trans hoi')
      subst this
      have hwait : ∀ j k, Region.waitsFor .any l.toArray j k = true → listed.getD j false = true → listed.getD k false = true := by
        intro j k hw hl
        obtain ⟨oj, hoj, e, he, hb, hon⟩ := Region.waitsFor_spec hw
        rw [← hon]
        exact inv.closed j oj hoj hl e he hb
      have hdstj : ∀ j t, dst j = some t → ∃ oj, l[j]? = some oj ∧ oj.dst = some t := by
        intro j t hj
        simp only [dst] at hj
        cases hlj : l[j]? with
        | none => simp [hlj] at hj
        | some oj => exact ⟨oj, rfl, by simpa [hlj] using hj⟩
      have hlook : ∀ t ∈ o'.looksAt l.toArray, ∀ lv, (st i).sl[t]? = some lv → LV.rel w (Av E.A0 M s.bx) M lv (a.tmps.getD t undef) := by
        intro t ht lv hlv
        rw [(hstsl i (by omega)).2.2] at hlv
        refine hslots t lv ?_
        rw [view_same (i := i) hXi n (fun j hj hdj => ?_) (fun j hij hjn hdj => ?_), Nat.min_eq_right (by omega)]
        · exact hlv
        · obtain ⟨oj, hoj, hdo⟩ := hdstj j t hdj
          rcases hpair j i (by omega) hin hj oj o' hoj hoi' with h1 | h1
          · obtain ⟨oo, hoo, e, he, hb, hon⟩ := Region.waitsFor_spec h1
            have : oo = o' := Option.some.inj (hoo.symm.trans hoi)
            subst this
            rw [← hon]
            exact hall e he hb
          · exact absurd ht ((Oper.apart_spec h1).1 t hdo)
        · obtain ⟨oj, hoj, hdo⟩ := hdstj j t hdj
          rcases hpair i j hin hjn hij o' oj hoi' hoj with h1 | h1
          · cases hlj : listed.getD j false with
            | false => rfl
            | true => rw [hwait j i h1 hlj] at hXi; cases hXi
          · exact absurd ht ((Oper.apart_spec h1).2.2 t hdo)
      have hszi : a.tmps.size = (st i).sl.length := by rw [hsz, (hstsl i (by omega)).1]
      have hbxi : (st i).bx = s.bx := (hstsl i (by omega)).2.1
      have next : ∀ (val : Value) (w' : World), Below w.heap.size w w' → LV.rel w' (Av E.A0 M s.bx) M (v i) val → wpAny P .any l.toArray (Lift E Q) (f + (l.length - n)) (listed.setIfInBounds i true) (a.put o'.dst val) w' := by
        intro val w' hbel hval
        have hls : i < listed.size := by rw [inv.size]; simp; omega
        refine ih _ _ w' (by have := todo_set hin hls hXi; omega) (inv.set hi hin) (by cases hdd : o'.dst <;> simp [Act.put, hdd, hdef]) (by cases hdd : o'.dst <;> simp [Act.put, hdd, hsz]) (fun t lv hlv => ?_) (hbx.below hbel)
        have hX' : (fun j => (listed.setIfInBounds i true).getD j false) = fun j => listed.getD j false || j == i := by
          funext j
          by_cases hj : i = j
          · subst hj; simp [hls]
          · rw [getD_set_ne false hj]
            have : (j == i) = false := by simpa using fun e => hj e.symm
            simp [this]
        rw [hX', view_after (i := i) hXi n (fun j t hij hjn hdi hdj => by
          obtain ⟨oj, hoj, hdo⟩ := hdstj j t hdj
          rcases hpair i j hin hjn hij o' oj hoi' hoj with h1 | h1
          · cases hlj : listed.getD j false with
            | false => rfl
            | true => rw [hwait j i h1 hlj] at hXi; cases hXi
          · have hdi' : o'.dst = some t := by simpa [dst, hoi'] using hdi
            exact absurd hdo ((Oper.apart_spec h1).2.1 t hdi')) t] at hlv
        have hdi : dst i = o'.dst := by simp [dst, hoi']
        rw [hdi] at hlv
        split at hlv
        · rename_i hc
          cases hlv
          have hlt : t < a.tmps.size := by rw [hsz]; exact hc.2.2
          rw [hc.2.1]
          simpa [Act.put, hlt] using hval
        · rename_i hc
          have hold := (hslots t lv hlv).mono (Keeps.below hbel)
          have hlt : t < s.sl.length := by
            have : ∀ m, view dst v s.sl (fun j => listed.getD j false) m t = some lv → t < s.sl.length := by
              intro m
              induction m with
              | zero => intro h; exact (List.getElem?_eq_some_iff.1 h).1
              | succ m ih =>
                intro h
                simp only [view] at h
                split at h
                · rename_i hh; exact hh.2.2
                · exact ih h
            exact this n hlv
          have hne : o'.dst ≠ some t := fun e => hc ⟨hin, e, hlt⟩
          cases hdd : o'.dst with
          | none => simpa [Act.put, hdd] using hold
          | some d =>
            have : d ≠ t := fun e => hne (by rw [hdd, e])
            simpa [Act.put, hdd, this] using hold
      unfold wpOp
      simp only [hoi]
      obtain ⟨g, pp, b, hwb, hpp, hcase⟩ := hgood
      rw [wantB_sound' (w := w) (A := Av E.A0 M s.bx) (M := M) hwb hpp hszi hlook]
      rcases hcase with ⟨rfl, hv⟩ | ⟨rfl, hh, sd, hpv, hsd⟩
      · simp only [Bool.false_eq_true, if_false]
        exact next undef w (Below.refl _ _) (by rw [hv]; exact ud_rel)
      · simp only [if_true]
        rw [hbxi] at hpv
        refine .inl (pval_sound (P := P) (E := E) hpv hsd hbx (fun x hx => ?_) _ _ next)
        cases x with
        | tmp t =>
          simp only [DS.ev, Act.eval]
          cases ht : (st i).sl[t]? with
          | none => simp [List.getD, ht]; trivial
          | some lv =>
            simp only [List.getD, ht, Option.getD_some]
            refine hlook t ?_ lv ht
            exact List.mem_append_left _ (List.mem_filterMap.2 ⟨.tmp t, by simpa using hx, rfl⟩)
        | const c => exact ofConst_rel c
        | global g => exact RelD.con _ rfl
        | func f => exact ⟨#[], rfl, rfl, fun j c hj => by simp at hj⟩
  have hdrew : Below w0.heap.size w0 w0.drew := (Below.refl _ _).drew
  have hst1 := hst0.below hdrew
  have hrep : todo n (Array.replicate l.toArray.size false) = n := by
    unfold todo
    have : ((List.range n).filter fun i => !(Array.replicate l.toArray.size false).getD i false) = List.range n := by
      rw [List.filter_eq_self]
      intro k _
      rw [getD_replicate_false]; rfl
    rw [this]; simp
  have := head n (Array.replicate l.toArray.size false) a0 w0.drew hrep
    ⟨by simp, fun j oj _ hl => (by rw [getD_replicate_false] at hl; cases hl), fun t _ ht => getD_in (by simpa using ht) (getD_replicate_false _ _)⟩ hst1.defers hst1.size (fun t lv hlv => by
      refine hst1.slots t lv ?_
      have : ∀ m, view dst v s.sl (fun j => (Array.replicate l.toArray.size false).getD j false) m t = s.sl[t]? := by
        intro m
        induction m with
        | zero => rfl
        | succ m ih => simp only [view]; rw [ih]; simp only [getD_replicate_false]; simp
      rw [← this n]; exact hlv) hst1.boxes
  rw [show n + (l.length - n) = l.toArray.size by simp; omega] at this
  exact this

theorem T_draw {base id : Nat} {l : List Oper} {Q : DX → DS → Prop} {s : DS} (n : Nat) (hs : List Hint) (s' : DS) (side : Prop) (hm : P.follows .mixedOrders = true) (hok : drawOk l.toArray n = true)
    (h : dexecDraw P base l n hs s = some (side, s')) (hside : side) (hq : Q .normal s') : T P base (.region id l.toArray true) Q s := by
  unfold dexecDraw at h
  split at h
  case h_2 => cases h
  rename_i p s1 hp
  split at h
  case h_2 => cases h
  rename_i q s2 hd
  simp only [Option.some.injEq, Prod.mk.injEq] at h
  obtain ⟨h1, rfl⟩ := h
  rw [← h1] at hside
  exact T_drawTL n hs s1 p hm hok hp hside.1 (dexec_sound (P := P) (base := base) (Q := Q) _ _ _ _ _ hd hside.2 hq)

end
end Go.DL

namespace Go.DL
open Go.RowKit

def C.keep (ok : Nat → Bool) : C → C
  | .own i => match ok i with | true => .own i | false => .junk
  | .ref i o => match ok i with | true => .ref i o | false => .junk
  | .rref i k o => match ok i with | true => .rref i k o | false => .junk
  | .part i k o => match ok i with | true => .part i k o | false => .junk
  | .fn f caps => match caps.all (fun c => match c with | .inl i => ok i | .inr _ => true) with | true => .fn f caps | false => .junk
  | c => c

def LV.keep (ok : Nat → Bool) : LV → LV
  | .one c => .one (c.keep ok)
  | .agg cs => .agg (cs.map (C.keep ok))
  | .tup vs => .tup (vs.map fun p => (p.1, p.2.map (C.keep ok)))

def capLV : Sum Nat D → LV
  | .inl i => .one (.ref i 0)
  | .inr d => .one (.dat d)

def partOf : LV → Bool × List C
  | .one c => (false, [c])
  | .agg cs => (true, cs)
  | .tup _ => (false, [])

def resLV (ls : List LV) : LV :=
  match ls with
  | [l] => l
  | ls => .tup (ls.map partOf)

def liveIn (bx : List (Nat × Box)) (base : Nat) (i : Nat) : Bool := Nat.blt i base && bx.any fun p => p.1 == i

def DS.back (s : DS) (bx : List (Nat × Box)) (base : Nat) : DS := ⟨s.sl.map (LV.keep (liveIn bx base)), bx⟩

def inlinePost (P : Program) (fn : Func) (base' : Nat) (N : DS → Prop) (dst : Option Tmp) (s : DS) : DX → DS → Prop
  | .normal, s' => ∃ ls, dres P s' fn.results.toList = some ls ∧ N ((s.back s'.bx base').put dst (resLV ls))
  | .ret, s' => ∃ ls, dres P s' fn.results.toList = some ls ∧ N ((s.back s'.bx base').put dst (resLV ls))
  | _, _ => False

section
variable {P : Program} {w : World} {A : Nat → Prop} {M M' : BMap}

theorem C.keep_rel {ok : Nat → Bool} {c : C} {v : Value} (hM : ∀ i, ok i = true → M'.blk i = M.blk i ∧ M'.rv i = M.rv i ∧ M'.sz i = M.sz i) (h : C.rel w A M c v) : C.rel w A M' (c.keep ok) v := by
  cases c with
  | own i =>
    simp only [C.keep]
    split
    · rename_i hi; simpa [C.rel, hM i hi] using h
    · trivial
  | ref i o =>
    simp only [C.keep]
    split
    · rename_i hi; simpa [C.rel, hM i hi] using h
    · trivial
  | rref i k o =>
    simp only [C.keep]
    split
    · rename_i hi; simpa [C.rel, hM i hi] using h
    · trivial
  | part i k o =>
    simp only [C.keep]
    split
    · rename_i hi; simpa [C.rel, hM i hi] using h
    · trivial
  | fn f caps =>
    simp only [C.keep]
    split
    · rename_i hi
      obtain ⟨arr, h1, h2, h3⟩ := h
      refine ⟨arr, h1, h2, fun j c hj => ?_⟩
      obtain ⟨u, hu, hr⟩ := h3 j c hj
      refine ⟨u, hu, ?_⟩
      cases c with
      | inl i =>
        have := List.all_eq_true.1 hi _ (List.mem_of_getElem? hj)
        simp only at this
        simpa [capRel, hM i this] using hr
      | inr d => exact hr
    · trivial
  | dat d => exact h
  | junk => trivial

theorem cells_keep {ok : Nat → Bool} {cs : List C} {arr : Array Value} (hM : ∀ i, ok i = true → M'.blk i = M.blk i ∧ M'.rv i = M.rv i ∧ M'.sz i = M.sz i) (h : cellsRel w A M cs arr) : cellsRel w A M' (cs.map (C.keep ok)) arr := by
  refine ⟨by simp [h.1], fun j c hj => ?_⟩
  simp only [List.getElem?_map, Option.map_eq_some_iff] at hj
  obtain ⟨c', hc', rfl⟩ := hj
  obtain ⟨u, hu, hr⟩ := h.2 j c' hc'
  exact ⟨u, hu, C.keep_rel hM hr⟩

theorem LV.keep_rel {ok : Nat → Bool} {l : LV} {v : Value} (hM : ∀ i, ok i = true → M'.blk i = M.blk i ∧ M'.rv i = M.rv i ∧ M'.sz i = M.sz i) (h : LV.rel w A M l v) : LV.rel w A M' (l.keep ok) v := by
  cases l with
  | one c => exact C.keep_rel hM h
  | agg cs => exact let ⟨arr, h1, h2⟩ := h; ⟨arr, h1, cells_keep hM h2⟩
  | tup ps =>
    obtain ⟨arr, h1, h2, h3⟩ := h
    refine ⟨arr, h1, by simp [h2], fun j p hj => ?_⟩
    simp only [List.getElem?_map, Option.map_eq_some_iff] at hj
    obtain ⟨q, hq, rfl⟩ := hj
    obtain ⟨u, hu, hr⟩ := h3 j q hq
    refine ⟨u, hu, ?_⟩
    obtain ⟨b, cs⟩ := q
    cases b with
    | true => exact let ⟨arr, h1, h2⟩ := hr; ⟨arr, h1, cells_keep hM h2⟩
    | false =>
      match cs, hr with
      | [], _ => trivial
      | [c], hr => exact C.keep_rel hM hr
      | _ :: _ :: _, _ => trivial

theorem partOf_rel {l : LV} {v : Value} (h : LV.rel w A M l v) : partRel w A M (partOf l) v := by
  cases l with
  | one c => exact h
  | agg cs => exact h
  | tup ps => trivial

theorem resLV_rel {ls : List LV} {vs : List Value} (hl : vs.length = ls.length) (h : ∀ (j : Nat) (l : LV), ls[j]? = some l → ∃ u, vs[j]? = some u ∧ LV.rel w A M l u) :
    LV.rel w A M (resLV ls) (if h : vs.toArray.size = 1 then vs.toArray[0] else .tuple vs.toArray) := by
  unfold resLV
  split
  · rename_i l
    have : vs.length = 1 := by rw [hl]; rfl
    obtain ⟨x, rfl⟩ := List.length_eq_one_iff.1 this
    obtain ⟨u, hu, hr⟩ := h 0 l rfl
    simp at hu
    subst hu
    simpa using hr
  · rename_i hne
    have hne1 : vs.toArray.size ≠ 1 := by
      intro he
      have : ls.length = 1 := by rw [← hl]; simpa using he
      obtain ⟨l, rfl⟩ := List.length_eq_one_iff.1 this
      exact hne l rfl
    rw [dif_neg hne1]
    refine ⟨vs.toArray, rfl, by simp [hl], fun j p hj => ?_⟩
    simp only [List.getElem?_map, Option.map_eq_some_iff] at hj
    obtain ⟨l, hlj, rfl⟩ := hj
    obtain ⟨u, hu, hr⟩ := h j l hlj
    exact ⟨u, by simpa using hu, partOf_rel hr⟩

theorem TL_inline {base : Nat} {ops : Array Oper} {o : Oper} {rest : List Oper} {Q : DX → DS → Prop} {s : DS} (base' : Nat) {fop : Operand} {args : Array Operand} {ts : Array TypeId} (f : FuncId) (caps : List (Sum Nat D)) (fn : Func) (c : Code)
    (ho : o.op = .call { callee := .value fop, args := args, argTypes := ts }) (hg : o.guard = none) (hf : s.ev fop = .one (.fn f caps)) (hfn : P.funcs[f]? = some fn) (hname : (fn.name == "runtime.NumGoroutine") = false) (hb : fn.body = some c) (hbase : base ≤ base')
    (h : T P base' c (inlinePost P fn base' (TL P base ops rest Q) o.dst s) ⟨args.toList.map s.ev ++ (caps.map capLV ++ List.replicate (fn.ntmps - (args.size + caps.length)) (.one .junk)), s.bx⟩) : TL P base ops (o :: rest) Q s := by
  intro E M w a hE hst
  refine wpList_plain hg fun K hK => ?_
  have hslots := ev_rel hst.size hst.slots
  have hfr := hslots fop
  rw [hf] at hfr
  obtain ⟨cv, hfv, hcs, hcv⟩ := hfr
  unfold Oper.wp
  rw [run_call_func ho hfv ⟨fn, hfn, hname, by rw [hb]; rfl⟩, Oper.upon_enter]
  let E' : Env := ⟨w, E.A0, base', M, fun k => ∃ p ∈ s.bx, boxBlk M p = some k, fun i => i ∈ s.bx.map (·.1), []⟩
  have hO : ∀ k, E'.O k → (E.O k ∨ E.w0.heap.size ≤ k) ∧ k < w.heap.size := fun k ⟨p, hp, hk⟩ => hst.boxes.new p hp k hk
  have hbx' : Boxes E' M w s.bx := {
    ok := hst.boxes.ok
    ids := hst.boxes.ids
    blks := hst.boxes.blks
    new := fun p hp k hk => ⟨.inl ⟨p, hp, hk⟩, (hst.boxes.new p hp k hk).2⟩
    foreign := fun b hb => by
      have h1 := hst.boxes.foreign b hb
      refine ⟨Nat.lt_of_lt_of_le h1.1 hst.boxes.frame.size, fun hob => ?_⟩
      rcases (hO b hob).1 with h2 | h2
      · exact h1.2 h2
      · have := h1.1; omega
    frame := Fr.refl _ _
    old := fun p hp _ => ⟨List.mem_map.2 ⟨p, hp, rfl⟩, rfl, rfl, rfl⟩ }
  refine calls_of_wpM hfn hb ?_
  have hst' : St E' M w { tmps := args.map a.eval ++ cv ++ Array.replicate (fn.ntmps - (args.map a.eval ++ cv).size) undef, defers := [] } ⟨args.toList.map s.ev ++ (caps.map capLV ++ List.replicate (fn.ntmps - (args.size + caps.length)) (.one .junk)), s.bx⟩ := by
    refine ⟨rfl, by simp [hcs], fun t l hl => ?_, hbx'⟩
    rw [List.getElem?_append] at hl
    simp only [List.length_map, Array.length_toList] at hl
    rw [Array.append_assoc, Array.getD_eq_getD_getElem?, Array.getElem?_append]
    simp only [Array.size_map]
    split at hl
    · rename_i hlt
      simp only [List.getElem?_map, Option.map_eq_some_iff, Array.getElem?_toList] at hl
      obtain ⟨x, hx, rfl⟩ := hl
      rw [if_pos hlt]
      simp only [Array.getElem?_map, hx, Option.map_some, Option.getD_some]
      exact hslots x
    · rename_i hge
      rw [if_neg hge]
      rw [List.getElem?_append] at hl
      simp only [List.length_map] at hl
      rw [Array.getElem?_append, hcs]
      split at hl
      · rename_i hlt
        rw [if_pos hlt]
        simp only [List.getElem?_map, Option.map_eq_some_iff] at hl
        obtain ⟨cp, hcp, rfl⟩ := hl
        obtain ⟨u, hu, hr⟩ := hcv _ cp hcp
        rw [hu, Option.getD_some]
        cases cp with
        | inl i => exact hr
        | inr d => exact hr
      · rw [List.getElem?_replicate] at hl
        split at hl
        · cases hl; trivial
        · cases hl
  refine wp_mono (h E' M w _ rfl hst') ?_
  rintro e a' wE ⟨E1, hext, x, s', M', hx, hq, hstE⟩
  have key2 : ∀ w', St E' M' w' { a' with defers := [] } s' → (∃ ls, dres P s' fn.results.toList = some ls ∧ TL P base ops rest Q ((s.back s'.bx base').put o.dst (resLV ls))) → ∃ v, (results fn a'.tmps).run P w' = .ok v w' ∧ K (a.put o.dst v) w' := by
    intro w' hst2
    have hFr : Fr E.O E.w0 w' := by
      have h1 := hst2.boxes.frame
      have h2 := hst.boxes.frame
      refine ⟨h1.os.trans h2.os, h1.tape.trans h2.tape, h1.output.trans h2.output, Nat.le_trans h2.size h1.size, fun k hk hok => ?_⟩
      refine (h1.block k (Nat.lt_of_lt_of_le hk h2.size) fun hob => ?_).trans (h2.block k hk hok)
      rcases (hO k hob).1 with h3 | h3
      · exact hok h3
      · omega
    have hBox : Boxes E M' w' s'.bx := {
      ok := hst2.boxes.ok
      ids := hst2.boxes.ids
      blks := hst2.boxes.blks
      new := fun p hp k hk => by
        obtain ⟨h1, h2⟩ := hst2.boxes.new p hp k hk
        refine ⟨?_, h2⟩
        rcases h1 with h1 | h1
        · exact (hO k h1).1
        · exact .inr (Nat.le_trans hst.boxes.frame.size h1)
      foreign := hst.boxes.foreign
      frame := hFr
      old := fun p hp hlt => by
        obtain ⟨h1, h2, h3, h4⟩ := hst2.boxes.old p hp (Nat.lt_of_lt_of_le hlt (by show E.base ≤ base'; omega))
        obtain ⟨p0, hp0, he⟩ := List.mem_map.1 h1
        have := hst.boxes.old p0 hp0 (by rw [he]; exact hlt)
        rw [he] at this
        obtain ⟨g1, g2, g3, g4⟩ := this
        exact ⟨g1, h2.trans g2, h3.trans g3, h4.trans g4⟩ }
    have hKeeps : Keeps w (Av E.A0 M s.bx) w' (Av E.A0 M' s'.bx) := by
      intro b off u h1 h2
      have hlt := World.block_lt_of_cell? w ⟨b, off, none⟩ h2
      have hnO : ¬ E'.O b := fun hob => h1 (.inr hob)
      refine ⟨fun h3 => ?_, ?_⟩
      · rcases h3 with h3 | ⟨p, hp, hk⟩
        · exact h1 (.inl h3)
        · rcases (hst2.boxes.new p hp b hk).1 with h4 | h4
          · exact hnO h4
          · exact absurd hlt (Nat.not_lt.2 h4)
      · rw [World.cell?_of_block (hst2.boxes.frame.block b hlt hnO)]; exact h2
    have hlive : ∀ i, liveIn s'.bx base' i = true → M'.blk i = M.blk i ∧ M'.rv i = M.rv i ∧ M'.sz i = M.sz i := by
      intro i hi
      simp only [liveIn, Bool.and_eq_true, List.any_eq_true, beq_iff_eq] at hi
      obtain ⟨h1, p, hp, he⟩ := hi
      have hlt : i < base' := by simpa [Nat.blt_eq] using h1
      obtain ⟨_, h2, h3, h4⟩ := hst2.boxes.old p hp (by rw [he]; exact hlt)
      rw [he] at h2 h3 h4
      exact ⟨h2, h3, h4⟩
    have hcall : St E M' w' a (s.back s'.bx base') := by
      refine ⟨hst.defers, by simp [DS.back, hst.size], fun t l hl => ?_, hBox⟩
      simp only [DS.back, List.getElem?_map, Option.map_eq_some_iff] at hl
      obtain ⟨l', hl', rfl⟩ := hl
      exact LV.keep_rel hlive ((hst.slots t l' hl').mono hKeeps)
    have key : (∃ ls, dres P s' fn.results.toList = some ls ∧ TL P base ops rest Q ((s.back s'.bx base').put o.dst (resLV ls))) → ∃ v, (results fn a'.tmps).run P w' = .ok v w' ∧ K (a.put o.dst v) w' := by
      rintro ⟨ls, h1, h2⟩
      obtain ⟨vs, h3, h4, h5⟩ := dres_run (P := P) hst2 _ ls h1
      exact ⟨_, results_run fn a'.tmps vs h3, hK _ _ (h2 E M' w' _ hE (hcall.put o.dst (resLV_rel h4 h5)))⟩
    exact key
  have fin : (∃ ls, dres P s' fn.results.toList = some ls ∧ TL P base ops rest Q ((s.back s'.bx base').put o.dst (resLV ls))) → ∃ w2, takeAll P a'.defers wE w2 ∧ ∃ v, (results fn a'.tmps).run P w2 = .ok v w2 ∧ K (a.put o.dst v) w2 := by
    intro hq
    obtain ⟨w2, ht, hst'⟩ := St.atEnd (P := P) hext rfl hbx'.foreign hstE
    exact ⟨w2, ht, key2 _ hst' hq⟩
  cases x with
  | normal =>
    cases e <;> simp only [XRel] at hx
    exact ⟨.inl rfl, fin hq⟩
  | ret =>
    cases e <;> simp only [XRel] at hx
    exact ⟨.inr rfl, fin hq⟩
  | exit id => exact hq.elim
  | panic d => exact hq.elim

theorem TL_append {base : Nat} {ops : Array Oper} {Q : DX → DS → Prop} : ∀ (l1 l2 : List Oper) (hs : List Hint) (s s' : DS) (side : Prop), dexec P base ops l1 hs s = some (side, s') → side → TL P base ops l2 Q s' → TL P base ops (l1 ++ l2) Q s
  | [], l2, hs, s, s', side, h, _, hq => by
    simp only [dexec, Option.some.injEq, Prod.mk.injEq] at h
    obtain ⟨_, rfl⟩ := h
    exact hq
  | o :: os, l2, hs, s, s', side, h, hside, hq => by
    unfold dexec at h
    split at h
    · cases h
    · rename_i p hw
      split at h
      · rename_i q s2 h2
        simp only [Option.some.injEq, Prod.mk.injEq] at h
        obtain ⟨h1, rfl⟩ := h
        rw [← h1] at hside
        intro E M w a hb hst
        rw [List.cons_append]
        refine wpList_step fun K hK => ?_
        rw [wantB_sound hw hside.1 hst]
        simp only [Bool.false_eq_true, if_false]
        exact hK _ _ (TL_append os l2 _ _ _ q h2 hside.2 hq E M w _ hb (hst.put o.dst (l := UD) ud_rel))
      · cases h
    · rename_i p hw
      split at h
      · cases h
      · rename_i r s1 h3
        split at h
        · rename_i q s2 h2
          simp only [Option.some.injEq, Prod.mk.injEq] at h
          obtain ⟨h1, rfl⟩ := h
          rw [← h1] at hside
          intro E M w a hb hst
          rw [List.cons_append]
          refine wpList_step fun K hK => ?_
          rw [wantB_sound hw hside.1 hst]
          simp only [if_true]
          exact dstep_sound h3 hside.2.1 hst hb K _ fun v w' M' hst' => hK _ _ (TL_append os l2 _ _ _ q h2 hside.2.2 hq E M' w' _ hb hst')
        · cases h

theorem TL_all {base : Nat} {ops : Array Oper} {l : List Oper} {Q : DX → DS → Prop} {s : DS} (hs : List Hint) (s' : DS) (side : Prop) (h : dexec P base ops l hs s = some (side, s')) (hside : side) (hq : Q .normal s') : TL P base ops l Q s :=
  dexec_sound l hs s s' side h hside hq

def C.freeze (id : Nat) (od : Option D) (rd : Option (List D)) : C → C
  | .own i => match i == id with
    | true => match od with
      | some d => .dat d
      | none => .junk
    | false => .own i
  | .ref i o => match i == id with
    | true => match rd with
      | some ds => .dat (.ptr (ds.drop o))
      | none => .junk
    | false => .ref i o
  | .rref i k o => match i == id with
    | true => .junk
    | false => .rref i k o
  | .part i k o => match i == id with
    | true => .junk
    | false => .part i k o
  | .fn f caps => match caps.any (fun c => match c with | .inl i => i == id | .inr _ => false) with
    | false => .fn f caps
    | true => match rd with
      | some ds => .fn f (caps.map fun c => match c with | .inl i => (match i == id with | true => .inr (.ptr ds) | false => .inl i) | .inr d => .inr d)
      | none => .junk
  | c => c

def LV.freeze (id : Nat) (od : Option D) (rd : Option (List D)) : LV → LV
  | .one c => .one (c.freeze id od rd)
  | .agg cs => .agg (cs.map (C.freeze id od rd))
  | .tup vs => .tup (vs.map fun p => (p.1, p.2.map (C.freeze id od rd)))

def Box.freeze (id : Nat) (od : Option D) (rd : Option (List D)) : Box → Box
  | .var cs => .var (cs.map (C.freeze id od rd))
  | .nest e es c => .nest e es (c.freeze id od rd)
  | b => b

def boxData : Box → Option D × Option (List D)
  | .row _ sz es => (some (.sl sz es), none)
  | .var cs => (none, allDat cs)
  | .map _ _ _ _ => (none, none)
  | .obj _ => (none, none)
  | .nest _ _ _ => (none, none)
  | .mapl _ _ _ => (none, none)

def DS.freeze (id : Nat) (s : DS) : DS :=
  match s.bx.lookup id with
  | some b => { sl := s.sl.map (LV.freeze id (boxData b).1 (boxData b).2), bx := (s.bx.filter fun p => !(p.1 == id)).map fun p => (p.1, p.2.freeze id (boxData b).1 (boxData b).2) }
  | none => s

theorem C.freeze_rel {id : Nat} {od : Option D} {rd : Option (List D)} {c : C} {v : Value} (h1 : ∀ d, od = some d → RelD w A d (M.rv id)) (h2 : ∀ ds, rd = some ds → ∀ o, RelD w A (.ptr (ds.drop o)) (.pointer (some ⟨M.blk id, o, none⟩))) (h : C.rel w A M c v) :
    C.rel w A M (c.freeze id od rd) v := by
  cases c with
  | own i =>
    simp only [C.freeze]
    split
    · rename_i hi
      have : i = id := by simpa using hi
      subst this
      split
      · rename_i d
        simp only [C.rel] at h
        subst h
        exact h1 d rfl
      · trivial
    · exact h
  | ref i o =>
    simp only [C.freeze]
    split
    · rename_i hi
      have : i = id := by simpa using hi
      subst this
      split
      · rename_i ds
        simp only [C.rel] at h
        subst h
        exact h2 ds rfl o
      · trivial
    · exact h
  | rref i k o =>
    simp only [C.freeze]
    split
    · trivial
    · exact h
  | part i k o =>
    simp only [C.freeze]
    split
    · trivial
    · exact h
  | fn f caps =>
    simp only [C.freeze]
    split
    · exact h
    · split
      · rename_i ds
        obtain ⟨arr, g1, g2, g3⟩ := h
        refine ⟨arr, g1, by simp [g2], fun j c hj => ?_⟩
        simp only [List.getElem?_map, Option.map_eq_some_iff] at hj
        obtain ⟨c', hc', rfl⟩ := hj
        obtain ⟨u, hu, hr⟩ := g3 j c' hc'
        refine ⟨u, hu, ?_⟩
        cases c' with
        | inl i =>
          simp only
          split
          · rename_i hi
            have : i = id := by simpa using hi
            subst this
            simp only [capRel] at hr ⊢
            subst hr
            exact h2 ds rfl 0
          · exact hr
        | inr d => exact hr
      · trivial
  | dat d => exact h
  | junk => trivial

theorem cells_freeze {id : Nat} {od : Option D} {rd : Option (List D)} {cs : List C} {arr : Array Value} (h1 : ∀ d, od = some d → RelD w A d (M.rv id)) (h2 : ∀ ds, rd = some ds → ∀ o, RelD w A (.ptr (ds.drop o)) (.pointer (some ⟨M.blk id, o, none⟩))) (h : cellsRel w A M cs arr) :
    cellsRel w A M (cs.map (C.freeze id od rd)) arr := by
  refine ⟨by simp [h.1], fun j c hj => ?_⟩
  simp only [List.getElem?_map, Option.map_eq_some_iff] at hj
  obtain ⟨c', hc', rfl⟩ := hj
  obtain ⟨u, hu, hr⟩ := h.2 j c' hc'
  exact ⟨u, hu, C.freeze_rel h1 h2 hr⟩

theorem LV.freeze_rel {id : Nat} {od : Option D} {rd : Option (List D)} {l : LV} {v : Value} (h1 : ∀ d, od = some d → RelD w A d (M.rv id)) (h2 : ∀ ds, rd = some ds → ∀ o, RelD w A (.ptr (ds.drop o)) (.pointer (some ⟨M.blk id, o, none⟩))) (h : LV.rel w A M l v) :
    LV.rel w A M (l.freeze id od rd) v := by
  cases l with
  | one c => exact C.freeze_rel h1 h2 h
  | agg cs => exact let ⟨arr, g1, g2⟩ := h; ⟨arr, g1, cells_freeze h1 h2 g2⟩
  | tup ps =>
    obtain ⟨arr, g1, g2, g3⟩ := h
    refine ⟨arr, g1, by simp [g2], fun j p hj => ?_⟩
    simp only [List.getElem?_map, Option.map_eq_some_iff] at hj
    obtain ⟨q, hq, rfl⟩ := hj
    obtain ⟨u, hu, hr⟩ := g3 j q hq
    refine ⟨u, hu, ?_⟩
    obtain ⟨b, cs⟩ := q
    cases b with
    | true => exact let ⟨arr, g1, g2⟩ := hr; ⟨arr, g1, cells_freeze h1 h2 g2⟩
    | false =>
      match cs, hr with
      | [], _ => trivial
      | [c], hr => exact C.freeze_rel h1 h2 hr
      | _ :: _ :: _, _ => trivial

theorem boxBlk_freeze {id : Nat} {od : Option D} {rd : Option (List D)} {i : Nat} {b : Box} : boxBlk M (i, b.freeze id od rd) = boxBlk M (i, b) := by
  cases b <;> rfl

theorem DS.le_freeze (s : DS) (id : Nat) : s.Le (s.freeze id) := by
  intro E M w a h
  unfold DS.freeze
  split
  case h_2 => exact ⟨M, h⟩
  rename_i b hl
  have hm := lookup_mem hl
  refine ⟨M, ?_⟩
  generalize hod : (boxData b).1 = od
  generalize hrd : (boxData b).2 = rd
  let bx' := (s.bx.filter fun p => !(p.1 == id)).map fun p => (p.1, p.2.freeze id od rd)
  have hmem : ∀ p ∈ bx', p.1 ≠ id ∧ ∃ b', (p.1, b') ∈ s.bx ∧ p.2 = b'.freeze id od rd := by
    intro p hp
    simp only [bx', List.mem_map, List.mem_filter] at hp
    obtain ⟨q, ⟨hq, hne⟩, rfl⟩ := hp
    exact ⟨by simpa using hne, q.2, hq, rfl⟩
  have hblk : ∀ p ∈ bx', ∀ k, boxBlk M p = some k → ∃ q ∈ s.bx, boxBlk M q = some k ∧ q.1 = p.1 := by
    intro p hp k hk
    obtain ⟨hne, b', hb', he⟩ := hmem p hp
    obtain ⟨i, bb⟩ := p
    simp only at he
    subst he
    rw [boxBlk_freeze] at hk
    exact ⟨_, hb', hk, rfl⟩
  have hsub : ∀ k, Av E.A0 M bx' k → Av E.A0 M s.bx k ∧ boxBlk M (id, b) ≠ some k := by
    rintro k (hk | ⟨p, hp, hk⟩)
    · refine ⟨.inl hk, fun hb => ?_⟩
      have h1 := (h.boxes.new _ hm k hb).1
      have h2 := h.boxes.foreign k hk
      rcases h1 with h1 | h1
      · exact h2.2 h1
      · have := h2.1; omega
    · obtain ⟨q, hq, hqk, hqi⟩ := hblk p hp k hk
      refine ⟨.inr ⟨q, hq, hqk⟩, fun hb => ?_⟩
      have := blks_inj h.boxes.blks q hq _ hm k hqk hb
      rw [this] at hqi
      exact (hmem p hp).1 hqi.symm
  have hk : Keeps w (Av E.A0 M s.bx) w (Av E.A0 M bx') := Keeps.sub fun k hk => (hsub k hk).1
  have h1 : ∀ d, od = some d → RelD w (Av E.A0 M bx') d (M.rv id) := by
    intro d hd
    cases b with
    | var cs => simp [boxData] at hod; rw [← hod] at hd; cases hd
    | map Q k e m => simp [boxData] at hod; rw [← hod] at hd; cases hd
    | obj p => simp [boxData] at hod; rw [← hod] at hd; cases hd
    | mapl Q k l => simp [boxData] at hod; rw [← hod] at hd; cases hd
    | nest e es c => simp [boxData] at hod; rw [← hod] at hd; cases hd
    | row e sz es =>
      simp only [boxData] at hod
      rw [← hod] at hd
      cases hd
      exact row_rel _ (fun k hk => ⟨(hsub k hk).1, by have := (hsub k hk).2; simpa [boxBlk] using this⟩) (h.boxes.ok id _ hm)
  have h2 : ∀ ds, rd = some ds → ∀ o, RelD w (Av E.A0 M bx') (.ptr (ds.drop o)) (.pointer (some ⟨M.blk id, o, none⟩)) := by
    intro ds hds o
    cases b with
    | row e sz es => simp [boxData] at hrd; rw [← hrd] at hds; cases hds
    | map Q k e m => simp [boxData] at hrd; rw [← hrd] at hds; cases hds
    | obj p => simp [boxData] at hrd; rw [← hrd] at hds; cases hds
    | mapl Q k l => simp [boxData] at hrd; rw [← hrd] at hds; cases hds
    | nest e es c => simp [boxData] at hrd; rw [← hrd] at hds; cases hds
    | var cs =>
      simp only [boxData] at hrd
      rw [← hrd] at hds
      have hcs := allDat_map cs ds hds
      obtain ⟨arr, T, hg, hc⟩ := h.boxes.ok id _ hm
      have hnot : ¬ Av E.A0 M bx' (M.blk id) := fun hb => (hsub _ hb).2 rfl
      have hcell : ∀ (j : Nat) (c : D), ds[j]? = some c → ∃ u, arr[j]? = some u ∧ RelD w (Av E.A0 M bx') c u := by
        intro j c hj
        obtain ⟨u, hu, hr⟩ := hc.2 j (.dat c) (by rw [hcs, List.getElem?_map, hj]; rfl)
        exact ⟨u, hu, RelD.mono hk hr⟩
      refine .ptr _ (M.blk id) o (fun j => arr.getD (o + j) undef) (fun j c hj => ?_) (fun j c hj => ?_)
      · rw [List.getElem?_drop] at hj
        obtain ⟨u, hu, _⟩ := hcell _ c hj
        exact ⟨hnot, by rw [cell_of_row w _ _ arr T (0, 0) hg]; simp [hu]⟩
      · rw [List.getElem?_drop] at hj
        obtain ⟨u, hu, hr⟩ := hcell _ c hj
        simpa [hu] using hr
  refine ⟨h.defers, by simp [h.size], fun t l hl' => ?_, ?_⟩
  · simp only [List.getElem?_map, Option.map_eq_some_iff] at hl'
    obtain ⟨l', hl2, rfl⟩ := hl'
    exact LV.freeze_rel h1 h2 ((h.slots t l' hl2).mono hk)
  · refine {
      ok := fun i b' hb => ?_
      ids := ?_
      blks := ?_
      new := fun p hp k hpk => ?_
      foreign := h.boxes.foreign
      frame := h.boxes.frame
      old := fun p hp hlt => ?_ }
    · obtain ⟨hne, b0, hb0, he⟩ := hmem _ hb
      simp only at he
      subst he
      have hok := (h.boxes.ok i b0 hb0).mono hk (fun _ _ => rfl)
      cases b0 with
      | var cs =>
        obtain ⟨arr, T, g1, g2⟩ := hok
        exact ⟨arr, T, g1, cells_freeze h1 h2 g2⟩
      | row e sz es => exact hok
      | map Q k e m => exact hok
      | obj p => exact hok
      | mapl Q k l => exact hok
      | nest e es c =>
        obtain ⟨xs, v, g1, g2, g3, g4, g5, g6⟩ := hok
        exact ⟨xs, v, g1, g2, g3, g4, C.freeze_rel h1 h2 g5, g6⟩
    · have : bx'.map (·.1) = (s.bx.filter fun p => !(p.1 == id)).map (·.1) := by simp [bx', List.map_map]
      show (bx'.map (·.1)).Nodup
      rw [this]
      exact (h.boxes.ids.sublist ((List.filter_sublist).map _))
    · have : bx'.filterMap (boxBlk M) = (s.bx.filter fun p => !(p.1 == id)).filterMap (boxBlk M) := by
        simp only [bx', List.filterMap_map]
        refine filterMap_congr' fun p _ => ?_
        show boxBlk M (p.1, p.2.freeze id od rd) = boxBlk M p
        rw [boxBlk_freeze]
      show (bx'.filterMap (boxBlk M)).Nodup
      rw [this]
      exact h.boxes.blks.sublist ((List.filter_sublist).filterMap _)
    · obtain ⟨q, hq, hqk, _⟩ := hblk p hp k hpk
      exact h.boxes.new q hq k hqk
    · obtain ⟨hne, b0, hb0, he⟩ := hmem p hp
      exact h.boxes.old (p.1, b0) hb0 hlt
end
end Go.DL

namespace Go.DL
open Go.RowKit

abbrev J : LV := .one .junk
abbrev dt (d : D) : LV := .one (.dat d)
abbrev I (n : Int) : D := .int .i64 n
abbrev B (b : Bool) : D := .bool b
abbrev cB (b : Bool) : C := .dat (.bool b)
abbrev nilS : D := .con (.slice none 0 0)

def mk (n : Nat) (l : List (Nat × LV)) (bx : List (Nat × Box)) : DS := ⟨(List.range n).map fun i => (l.lookup i).getD J, bx⟩

def maskL (live : List Nat) : List LV → Nat → List LV
  | [], _ => []
  | l :: ls, i => (match live.contains i with | true => l | false => J) :: maskL live ls (i + 1)

def DS.prune (live dead : List Nat) (s : DS) : DS := dead.foldl (fun s i => s.drop i) ⟨maskL live s.sl 0, s.bx⟩

theorem maskL_length (live : List Nat) : ∀ (ls : List LV) (i : Nat), (maskL live ls i).length = ls.length
  | [], _ => rfl
  | _ :: ls, i => by simp [maskL, maskL_length live ls]

theorem maskL_get (live : List Nat) : ∀ (ls : List LV) (i t : Nat) (l : LV), (maskL live ls i)[t]? = some l → l = J ∨ ls[t]? = some l
  | [], _, t, l, h => by simp [maskL] at h
  | x :: ls, i, 0, l, h => by
    simp only [maskL, List.getElem?_cons_zero, Option.some.injEq] at h
    split at h
    · exact .inr (by simpa using h)
    · exact .inl h.symm
  | x :: ls, i, t + 1, l, h => by simpa using maskL_get live ls (i + 1) t l (by simpa [maskL] using h)

theorem DS.le_prune (s : DS) (live dead : List Nat) : s.Le (s.prune live dead) := by
  have h1 : s.Le ⟨maskL live s.sl 0, s.bx⟩ := by
    intro E M w a h
    refine ⟨M, h.defers, by rw [h.size]; exact (maskL_length _ _ _).symm, fun t l hl => ?_, h.boxes⟩
    rcases maskL_get _ _ _ _ _ hl with rfl | hl'
    · trivial
    · exact h.slots t l hl'
  unfold DS.prune
  generalize (⟨maskL live s.sl 0, s.bx⟩ : DS) = s1 at h1 ⊢
  induction dead generalizing s1 with
  | nil => exact h1
  | cons i l ih => exact ih _ (h1.trans (DS.le_drop s1 i))

theorem DS.le_of_eq {s s' : DS} (h : s = s') : s.Le s' := h ▸ DS.Le.refl s

def DS.ice (ids : List Nat) (s : DS) : DS := ids.foldl (fun s i => s.freeze i) s

theorem DS.le_ice (s : DS) (ids : List Nat) : s.Le (s.ice ids) := by
  unfold DS.ice
  have : ∀ (ids : List Nat) (s1 : DS), s.Le s1 → s.Le (ids.foldl (fun s i => s.freeze i) s1) := by
    intro ids
    induction ids with
    | nil => exact fun _ h => h
    | cons i l ih => exact fun s1 h => ih _ (h.trans (DS.le_freeze s1 i))
  exact this ids s (DS.Le.refl s)

section
variable {P : Program} {base id : Nat} {l : List Oper} {Q : DX → DS → Prop} {s : DS}

def way (P : Program) (base : Nat) (l : List Oper) (hs : List Hint) (live dead : List Nat) (s : DS) : Option (Prop × DS) :=
  (dexec P base l.toArray l hs s).map fun r => (r.1, r.2.prune live dead)

def wayD (P : Program) (base : Nat) (l : List Oper) (n : Nat) (hs : List Hint) (live dead : List Nat) (s : DS) : Option (Prop × DS) :=
  (dexecDraw P base l n hs s).map fun r => (r.1, r.2.prune live dead)

theorem T_reg (hs : List Hint) (live dead : List Nat) (s' : DS) (side : Prop) (h : way P base l hs live dead s = some (side, s')) (hside : side) {y : Code} (hq : T P base y Q s') : T P base (.seq (.region id l.toArray false) y) Q s := by
  unfold way at h
  simp only [Option.map_eq_some_iff, Prod.mk.injEq] at h
  obtain ⟨⟨sd, s1⟩, h1, rfl, rfl⟩ := h
  exact T_seq (T_region hs s1 sd h1 hside (T_le (DS.le_prune s1 live dead) hq))

theorem T_regD (n : Nat) (hs : List Hint) (live dead : List Nat) (s' : DS) (side : Prop) (hm : P.follows .mixedOrders = true) (hok : drawOk l.toArray n = true) (h : wayD P base l n hs live dead s = some (side, s')) (hside : side) {y : Code} (hq : T P base y Q s') : T P base (.seq (.region id l.toArray true) y) Q s := by
  unfold wayD at h
  simp only [Option.map_eq_some_iff, Prod.mk.injEq] at h
  obtain ⟨⟨sd, s1⟩, h1, rfl, rfl⟩ := h
  exact T_seq (T_draw n hs s1 sd hm hok h1 hside (T_le (DS.le_prune s1 live dead) hq))

theorem T_regE (hs : List Hint) (s' : DS) (side : Prop) (h : dexec P base l.toArray l hs s = some (side, s')) (hside : side) (hq : Q .normal s') : T P base (.region id l.toArray false) Q s := T_region hs s' side h hside hq

theorem T_turn {c : Code} (ice live dead : List Nat) (s' : DS) (h : (s.ice ice).prune live dead = s') (hq : T P base c Q s') : T P base c Q s :=
  T_le ((DS.le_ice s ice).trans ((DS.le_prune _ live dead).trans (DS.le_of_eq h))) hq

theorem ret_here {fn : Func} {d : D} (ls : List LV) (h : dres P s fn.results.toList = some ls) (hf : resFit s.bx ls d) : retPost P fn d .ret s := ⟨ls, h, hf⟩
end

theorem i64_wrap {x : Int} (h1 : -9223372036854775808 ≤ x) (h2 : x ≤ 9223372036854775807) : IntKind.i64.wrap x = x := by
  rw [IntKind.wrap_i64]; omega

end Go.DL

namespace Go.DL
open Go.RowKit

section
variable {P : Program} {base id : Nat} {Q : DX → DS → Prop} {s : DS}

theorem TL_part {ops : Array Oper} {l : List Oper} (n : Nat) (hs : List Hint) (s' : DS) (side : Prop) (h : dexec P base ops (l.take n) hs s = some (side, s')) (hside : side) {l2 : List Oper} (hl : l.drop n = l2) (hq : TL P base ops l2 Q s') : TL P base ops l Q s := by
  subst hl
  have := TL_append (P := P) (base := base) (Q := Q) (ops := ops) (l.take n) (l.drop n) hs s s' side h hside hq
  rwa [List.take_append_drop] at this

theorem TL_turn {ops : Array Oper} {l : List Oper} (ice live dead : List Nat) (s' : DS) (h : (s.ice ice).prune live dead = s') (hq : TL P base ops l Q s') : TL P base ops l Q s :=
  TL_le ((DS.le_ice s ice).trans ((DS.le_prune _ live dead).trans (DS.le_of_eq h))) hq

theorem T_parts {l : List Oper} (hq : TL P base l.toArray l Q s) : T P base (.region id l.toArray false) Q s :=
  fun E M w a hb hst => wp_region_lit (hq E M w a hb hst)

theorem TL_nilQ {ops : Array Oper} (h : Q .normal s) : TL P base ops [] Q s := TL_all [] s True rfl trivial h

end
end Go.DL

namespace Go.DL
open Go.RowKit

def DS.ownSlot (t id : Nat) (e : TypeId) (sz : Nat) (s : DS) : Option DS :=
  match (s.drop id).sl[t]? with
  | some (.one (.dat (.con (.slice none 0 0)))) => some { ((s.drop id).push id (.row e sz [])) with sl := (s.drop id).sl.set t (.one (.own id)) }
  | _ => none

def DS.ownCell (i off id : Nat) (e : TypeId) (sz : Nat) (s : DS) : Option DS :=
  match ((s.drop id).push id (.row e sz [])).bx.lookup i with
  | some (.var cs) => match cs[off]? with
    | some (.dat (.con (.slice none 0 0))) => some (((s.drop id).push id (.row e sz [])).setBox i (.var (cs.set off (.own id))))
    | _ => none
  | _ => none

section
variable {P : Program} {w : World} {M : BMap} {base : Nat} {Q : DX → DS → Prop} {s : DS}

theorem St.pushNil {E : Env} {a : Act} (h : St E M w a s) (id : Nat) (e : TypeId) (sz : Nat) (hb : E.base ≤ id) :
    St E (M.upd id 0 (.slice none 0 0) sz) w a ((s.drop id).push id (.row e sz [])) := by
  refine StA.push (h.toA.drop id 0 (.slice none 0 0) sz) drop_free hb (row := none) ⟨rfl, rfl, rfl, Nat.le_refl _, fun _ _ _ => rfl⟩ (fun k hk => by cases hk) (fun b hb => Av_drop hb) (fun k hk => ?_) fun A' _ => ?_
  · simp [boxBlk, BMap.upd, Value.ownBlock] at hk
  · refine ⟨[], ⟨by simp, .inl ⟨by simp [BMap.upd], rfl⟩⟩, by simp, by simp [BMap.upd], fun j c hj => by simp [flat] at hj, fun k hk => by simp [BMap.upd, Value.ownBlock] at hk⟩

theorem nil_rel {A : Nat → Prop} {v : Value} (h : RelD w A (.con (.slice none 0 0)) v) : v = .slice none 0 0 := by cases h; rfl

end
end Go.DL

namespace Go.DL
open Go.RowKit

section
variable {P : Program} {w : World} {A : Nat → Prop} {M : BMap}

end
end Go.DL

namespace Go.DL
open Go.RowKit

variable {P : Program}

end Go.DL

namespace Go.DL
open Go.RowKit

section
variable {P : Program} {w : World} {A : Nat → Prop} {M : BMap}

end
end Go.DL

namespace Go.DL
open Go.RowKit

def C.unnil (sz : Nat) : C → C
  | .dat (.con (.slice none 0 0)) => .dat (.sl sz [])
  | c => c
def LV.unnil (j sz : Nat) : LV → LV
  | .one c => .one (c.unnil sz)
  | .agg cs => .agg (cs.modify j (C.unnil sz))
  | l => l
def DS.unnil (t j sz : Nat) (s : DS) : DS := { s with sl := s.sl.modify t (LV.unnil j sz) }

theorem nil_sl {w : World} {A : Nat → Prop} {v : Value} (sz : Nat) (h : RelD w A (.con (.slice none 0 0)) v) : RelD w A (.sl sz []) v := by
  cases h; exact .sl0 sz none 0 (fun _ => rfl)

section
variable {P : Program} {w : World} {A : Nat → Prop} {M : BMap} {base : Nat} {Q : DX → DS → Prop} {s : DS}

theorem C.unnil_rel {sz : Nat} {c : C} {v : Value} (h : C.rel w A M c v) : C.rel w A M (c.unnil sz) v := by
  unfold C.unnil
  split
  · exact nil_sl sz h
  · exact h

theorem LV.unnil_rel {j sz : Nat} {l : LV} {v : Value} (h : LV.rel w A M l v) : LV.rel w A M (l.unnil j sz) v := by
  unfold LV.unnil
  split
  · exact C.unnil_rel h
  · obtain ⟨arr, h1, h2, h3⟩ := h
    refine ⟨arr, h1, by simp [h2], fun k c hk => ?_⟩
    rw [List.getElem?_modify] at hk
    simp only [Option.map_eq_map, Option.map_eq_some_iff] at hk
    obtain ⟨c', hc', rfl⟩ := hk
    obtain ⟨u, hu, hr⟩ := h3 k c' hc'
    refine ⟨u, hu, ?_⟩
    split
    · exact C.unnil_rel hr
    · exact hr
  · exact h

theorem DS.le_unnil (s : DS) (t j sz : Nat) : s.Le (s.unnil t j sz) := by
  intro E M w a h
  refine ⟨M, h.defers, by simp [DS.unnil, h.size], fun k l hk => ?_, h.boxes⟩
  simp only [DS.unnil, List.getElem?_modify, Option.map_eq_map, Option.map_eq_some_iff] at hk
  obtain ⟨l', hl', rfl⟩ := hk
  have := h.slots k l' hl'
  simp only [DS.unnil]
  split
  · exact LV.unnil_rel this
  · exact this

def Weak (d d' : D) : Prop := ∀ (w : World) (A : Nat → Prop) (v : Value), RelD w A d' v → RelD w A d v
theorem Weak.refl (d : D) : Weak d d := fun _ _ _ h => h
theorem Weak.nil (sz : Nat) : Weak (.sl sz []) (.con (.slice none 0 0)) := fun _ _ _ h => nil_sl sz h
def AllWeak : List D → List D → Prop
  | [], [] => True
  | d :: ds, d' :: ds' => Weak d d' ∧ AllWeak ds ds'
  | _, _ => False
theorem AllWeak.length : ∀ {ds ds' : List D}, AllWeak ds ds' → ds.length = ds'.length
  | [], [], _ => rfl
  | _ :: _, _ :: _, h => by simp [AllWeak.length h.2]
  | [], _ :: _, h => h.elim
  | _ :: _, [], h => h.elim
theorem AllWeak.get : ∀ {ds ds' : List D}, AllWeak ds ds' → ∀ (j : Nat) (d : D), ds[j]? = some d → ∃ d', ds'[j]? = some d' ∧ Weak d d'
  | _ :: _, d' :: _, h, 0, d, hj => by simp at hj; subst hj; exact ⟨d', rfl, h.1⟩
  | _ :: ds, _ :: ds', h, j + 1, d, hj => by simpa using AllWeak.get h.2 j d (by simpa using hj)
  | [], [], _, _, _, hj => by simp at hj
  | [], _ :: _, h, _, _, _ => h.elim
  | _ :: _, [], h, _, _, _ => h.elim
theorem Weak.agg {ds ds' : List D} (h : AllWeak ds ds') : Weak (.agg ds) (.agg ds') := by
  intro w A v hr
  cases hr with
  | agg _ arr hs vs hv hrel =>
    refine .agg ds arr (by rw [hs, h.length]) vs (fun j c hj => ?_) (fun j c hj => ?_)
    · obtain ⟨d', hd', _⟩ := h.get j c hj; exact hv j d' hd'
    · obtain ⟨d', hd', hw⟩ := h.get j c hj; exact hw _ _ _ (hrel j d' hd')
theorem Ret.weak {f : FuncId} {ds ds' : List D} {d : D} (hr : Ret P f ds d) (h : AllWeak ds ds') : Ret P f ds' d := by
  refine ⟨hr.1, fun w A vs hA hs hv => hr.2 w A vs hA (by rw [hs, h.length]) fun j c hj => ?_⟩
  obtain ⟨d', hd', hw⟩ := h.get j c hj
  obtain ⟨u, hu, hrel⟩ := hv j d' hd'
  exact ⟨u, hu, hw _ _ _ hrel⟩
end
end Go.DL

namespace Go.DL
open Go.RowKit

section
variable {P : Program} {w : World} {A : Nat → Prop} {M : BMap}

end
end Go.DL

namespace Go.DL
open Go.RowKit Go.ChangeShapes Go.WideShapes

def Dec (P : Program) (t : TypeId) {α : Type} (cells : α → List D) (Good : α → Prop) : Prop :=
  ∀ (H : Type) (enc : TypeId × Value → H) (w : World) (fuel : Nat) (cs : List Value) (d : DataW H) (ps : List MemPlace), DataW.trod enc P w 0 (fun _ => true) true fuel t cs = some (d, ps) →
    ∃ a : α, cs.length = (cells a).length ∧ (∀ (j : Nat) (c : D), (cells a)[j]? = some c → ∃ v, cs[j]? = some v ∧ RelD w (fun _ => False) c v) ∧ ((∀ n ∈ d.weights P t, n ≤ reachBytes) → Good a)

def DecFs (P : Program) (off : Nat) (L : List (TypeId × Nat)) {α : Type} (cells : α → List D) (Good : α → Prop) : Prop :=
  ∀ (H : Type) (enc : TypeId × Value → H) (w : World) (n : Nat) (cs : List Value) (xs : List (DataW H × List MemPlace)), xs.length = L.length →
    (∀ (i : Nat) (t : TypeId) (o : Nat), L[i]? = some (t, o) → DataW.trod enc P w 0 (fun _ => true) true n t ((cs.drop o).take (P.cellsOf t)) = xs[i]?) →
    ∃ a : α, (∀ (j : Nat) (c : D), (cells a)[j]? = some c → ∃ v, cs[off + j]? = some v ∧ RelD w (fun _ => False) c v) ∧ ((∀ m ∈ DataW.weightsEach P (L.map (·.1)) (xs.map (·.1)), m ≤ reachBytes) → Good a)

def fieldsOf (P : Program) (t : TypeId) : Option (List (TypeId × Nat)) :=
  match P.underlying t with
  | some (.struct fs) => some (fs.toList.map fun f => (f.type, f.offset))
  | _ => none

section
variable {P : Program}

theorem Dec.map {t : TypeId} {α β : Type} {cells : α → List D} {Good : α → Prop} (h : Dec P t cells Good) (f : α → β) (cells' : β → List D) (Good' : β → Prop) (hc : ∀ a, cells' (f a) = cells a) (hg : ∀ a, Good a → Good' (f a)) : Dec P t cells' Good' := by
  intro H enc w fuel cs d ps hd
  obtain ⟨a, h1, h2, h3⟩ := h H enc w fuel cs d ps hd
  exact ⟨f a, by rw [hc]; exact h1, by rw [hc]; exact h2, fun hw => hg a (h3 hw)⟩

theorem one_get {w : World} {A : Nat → Prop} {d : D} {v : Value} (h : RelD w A d v) : ∀ (j : Nat) (c : D), [d][j]? = some c → ∃ u, [v][j]? = some u ∧ RelD w A c u := by
  intro j c hj
  cases j with
  | zero => simp at hj; subst hj; exact ⟨v, rfl, h⟩
  | succ j => simp at hj

theorem Dec.int {t : TypeId} {k : IntKind} (ht : P.underlying t = some (.int k)) : Dec P t (fun n : Int => [.int k n]) (fun n => (Lit.int k n).wf = true) := by
  intro H enc w fuel cs d ps hd
  obtain ⟨n, rfl, _, hwf⟩ := DataW.trod_int ht hd
  exact ⟨n, rfl, one_get (.int _ _), fun _ => hwf⟩

theorem Dec.bool {t : TypeId} (ht : P.underlying t = some .bool) : Dec P t (fun b : Bool => [.bool b]) (fun _ => True) := by
  intro H enc w fuel cs d ps hd
  obtain ⟨b, rfl, _⟩ := DataW.trod_bool ht hd
  exact ⟨b, rfl, one_get (.bool _), fun _ => trivial⟩

theorem DecFs.nil (off : Nat) : DecFs P off [] (fun _ : Unit => []) (fun _ => True) :=
  fun _ _ _ _ _ _ _ _ => ⟨(), by simp, fun _ => trivial⟩

theorem DecFs.cons {off : Nat} {t : TypeId} {L : List (TypeId × Nat)} {α β : Type} {ct : α → List D} {Gt : α → Prop} {cells : β → List D} {Good : β → Prop} (sz : Nat) (hsz : P.cellsOf t = sz) (h1 : Dec P t ct Gt) (hc : ∀ a, (ct a).length = sz)
    (h2 : DecFs P (off + sz) L cells Good) : DecFs P off ((t, off) :: L) (fun p : α × β => ct p.1 ++ cells p.2) (fun p => Gt p.1 ∧ Good p.2) := by
  intro H enc w n cs xs hl hx
  cases xs with
  | nil => simp at hl
  | cons x xs =>
    obtain ⟨d, ps⟩ := x
    have h0 := hx 0 t off rfl
    simp only [List.getElem?_cons_zero] at h0
    obtain ⟨a, g1, g2, g3⟩ := h1 H enc w n _ d ps h0
    obtain ⟨b, k1, k2⟩ := h2 H enc w n cs xs (by simpa using hl) (fun i t' o hi => by simpa using hx (i + 1) t' o (by simpa using hi))
    refine ⟨(a, b), fun j c hj => ?_, fun hw => ⟨g3 fun m hm => hw m ?_, k2 fun m hm => hw m ?_⟩⟩
    · simp only [List.getElem?_append, hc] at hj
      split at hj
      · obtain ⟨v, hv, hr⟩ := g2 j c hj
        refine ⟨v, ?_, hr⟩
        rw [List.getElem?_take] at hv
        split at hv
        · rwa [List.getElem?_drop] at hv
        · cases hv
      · obtain ⟨v, hv, hr⟩ := k1 _ c hj
        exact ⟨v, by rw [← hv]; congr 1; omega, hr⟩
    · simp only [List.map_cons, DataW.weightsEach]
      exact List.mem_append_left _ hm
    · simp only [List.map_cons, DataW.weightsEach]
      exact List.mem_append_right _ hm

theorem Dec.struct {t : TypeId} {L : List (TypeId × Nat)} {α : Type} {cells : α → List D} {Good : α → Prop} (sz : Nat) (hsz : P.cellsOf t = sz) (hf : fieldsOf P t = some L) (h : DecFs P 0 L cells Good) (hc : ∀ a, (cells a).length = sz) : Dec P t cells Good := by
  intro H enc w fuel cs d ps hd
  unfold fieldsOf at hf
  split at hf
  · rename_i fs ht
    simp only [Option.some.injEq] at hf
    obtain ⟨xs, n, _, hx, hlen, hxl, hall⟩ := DataW.trod_struct ht hd
    obtain ⟨a, h1, h2⟩ := h H enc w n cs xs (by rw [← hf]; simpa using hxl) (fun i t' o hi => by
      rw [← hf, List.getElem?_map, Option.map_eq_some_iff] at hi
      obtain ⟨f, hfi, he⟩ := hi
      cases he
      exact hall i f (by simpa using hfi))
    refine ⟨a, by rw [hlen, hsz, hc], fun j c hj => by simpa using h1 j c hj, fun hw => h2 fun m hm => hw m ?_⟩
    have : d = .agg (xs.map (·.1)) := congrArg Prod.fst hx
    rw [this]
    simp only [DataW.weights, ht]
    rw [← hf, List.map_map] at hm
    exact hm
  · cases hf

theorem weightsAll_mem {H : Type} {e : TypeId} {x : DataW H} {m : Nat} : ∀ {l : List (DataW H)}, x ∈ l → m ∈ x.weights P e → m ∈ DataW.weightsAll P e l
  | y :: l, hx, hm => by
    simp only [DataW.weightsAll, List.mem_append]
    rcases List.mem_cons.1 hx with rfl | hx
    · exact .inl hm
    · exact .inr (weightsAll_mem hx hm)

theorem flat_split {sz : Nat} (hpos : 0 < sz) : ∀ {es : List D} {j : Nat} {c : D}, (∀ e ∈ es, e.cells.length = sz) → (flat es)[j]? = some c → ∃ e, es[j / sz]? = some e ∧ e.cells[j % sz]? = some c
  | [], j, c, _, h => by simp [flat] at h
  | e :: es, j, c, hu, h => by
    have he := hu e List.mem_cons_self
    simp only [flat, List.flatMap_cons, List.getElem?_append, he] at h
    split at h
    · rename_i hlt
      exact ⟨e, by rw [Nat.div_eq_of_lt hlt]; rfl, by rw [Nat.mod_eq_of_lt hlt]; exact h⟩
    · rename_i hge
      obtain ⟨e', h1, h2⟩ := flat_split hpos (fun x hx => hu x (List.mem_cons_of_mem _ hx)) (show (flat es)[j - sz]? = some c from h)
      have hd : j / sz = (j - sz) / sz + 1 := by
        rw [← Nat.sub_add_cancel (Nat.le_of_not_lt hge), Nat.add_div_right _ hpos, Nat.add_sub_cancel]
      have hm : j % sz = (j - sz) % sz := by
        conv => lhs; rw [← Nat.sub_add_cancel (Nat.le_of_not_lt hge)]
        exact Nat.add_mod_right _ _
      exact ⟨e', by rw [hd]; simpa using h1, by rw [hm]; exact h2⟩

theorem Dec.slice {t e : TypeId} {α : Type} {cells : α → List D} {Good : α → Prop} (ht : P.underlying t = some (.slice e)) (sz bytes : Nat) (hsz : P.cellsOf e = sz) (hby : P.bytesOf e = bytes) (hpos : 0 < sz) (h : Dec P e cells Good) (enc : α → D)
    (hce : ∀ a, (enc a).cells = cells a) (hlen : ∀ a, (cells a).length = sz) : Dec P t (fun l : List α => [.sl sz (l.map enc)]) (fun l => l.length * bytes ≤ reachBytes ∧ ∀ a ∈ l, Good a) := by
  intro H en w fuel cs d ps hd
  rcases Go.Deep.open_slice ht hd with ⟨rfl, hx⟩ | ⟨a, len, cap, m, n, Dd, Pl, rfl, _, hlc, hcm, hm, hx, hel⟩
  · refine ⟨[], rfl, one_get (.sl0 sz none 0 fun _ => rfl), fun _ => ⟨by simp, by simp⟩⟩
  · simp only [if_true] at hm
    subst hm
    have hall : ∀ i : Fin len, ∃ b : α, ∃ cs' : List Value, w.cells? 0 (a.add (i.1 * sz)) sz = some cs' ∧ cs'.length = sz ∧
        (∀ (j : Nat) (c : D), (cells b)[j]? = some c → ∃ v, cs'[j]? = some v ∧ RelD w (fun _ => False) c v) ∧ ((∀ n ∈ (Dd i.1).weights P e, n ≤ reachBytes) → Good b) := by
      intro i
      obtain ⟨cs', h1, h2⟩ := hel i.1 (by omega)
      rw [hsz] at h1
      obtain ⟨b, g1, g2, g3⟩ := h H en w n cs' _ _ h2
      exact ⟨b, cs', h1, by rw [g1, hlen], g2, g3⟩
    let f : Fin len → α := fun i => Classical.choose (hall i)
    have hf : ∀ i : Fin len, ∃ cs' : List Value, w.cells? 0 (a.add (i.1 * sz)) sz = some cs' ∧ cs'.length = sz ∧
        (∀ (j : Nat) (c : D), (cells (f i))[j]? = some c → ∃ v, cs'[j]? = some v ∧ RelD w (fun _ => False) c v) ∧ ((∀ n ∈ (Dd i.1).weights P e, n ≤ reachBytes) → Good (f i)) := fun i => Classical.choose_spec (hall i)
    have hll : (List.ofFn f).length = len := by simp
    have hw : (∀ n ∈ d.weights P t, n ≤ reachBytes) → (List.ofFn f).length * bytes ≤ reachBytes ∧ ∀ b ∈ List.ofFn f, Good b := by
      intro hw
      have hd' : d = .slice ((List.range len).map Dd) ((List.range (m - len)).map fun j => Dd (len + j)) := congrArg Prod.fst hx
      rw [hd'] at hw
      simp only [DataW.weights, ht] at hw
      refine ⟨?_, fun b hb => ?_⟩
      · have := hw _ List.mem_cons_self
        simp only [List.length_map, List.length_range, hby] at this
        rw [hll]
        exact Nat.le_trans (Nat.mul_le_mul_right _ (by omega)) this
      · obtain ⟨i, hi⟩ := List.mem_ofFn.1 hb
        obtain ⟨cs', _, _, _, g⟩ := hf i
        rw [← hi]
        refine g fun n hn => hw n (List.mem_cons_of_mem _ (List.mem_append_left _ (weightsAll_mem (x := Dd i.1) (List.mem_map.2 ⟨i.1, by simp, rfl⟩) hn)))
    refine ⟨List.ofFn f, rfl, one_get ?_, hw⟩
    have huni : ∀ x ∈ (List.ofFn f).map enc, x.cells.length = sz := by
      intro x hx
      obtain ⟨b, _, rfl⟩ := List.mem_map.1 hx
      rw [hce, hlen]
    by_cases h0 : len = 0
    · subst h0
      have : (List.ofFn f).map enc = [] := by simp
      rw [this]
      exact .sl0 sz (some a) m (fun h => by cases h)
    · have hspot : a.spot = none := by
        obtain ⟨cs', h1, h2, _⟩ := hf ⟨0, by omega⟩
        obtain ⟨_, _, h3⟩ := World.cells?_some h1
        have := h3 0 hpos
        have hc0 : cs'[0]? = some cs'[0] := List.getElem?_eq_getElem (by omega)
        rw [hc0] at this
        simp only [Nat.zero_mul] at this
        simp only [Addr.add, if_true] at this
        unfold World.cell? at this
        split at this
        · split at this
          · cases this
          · rename_i hs; simpa using hs
        · cases this
      have haddr : ∀ k, a.add k = ⟨a.block, a.off + k, none⟩ := by
        intro k
        unfold Addr.add
        split
        · rename_i hk; subst hk; cases a; simp at hspot; subst hspot; rfl
        · rfl
      have key : ∀ (j : Nat) (c : D), (flat ((List.ofFn f).map enc))[j]? = some c → ∃ v, w.cell? ⟨a.block, a.off + j, none⟩ = some v ∧ RelD w (fun _ => False) c v := by
        intro j c hj
        obtain ⟨x, h1, h2⟩ := flat_split hpos huni hj
        rw [List.getElem?_map, Option.map_eq_some_iff] at h1
        obtain ⟨b, hb, rfl⟩ := h1
        obtain ⟨hlt, he⟩ := List.getElem?_eq_some_iff.1 hb
        rw [List.getElem_ofFn] at he
        rw [hll] at hlt
        obtain ⟨cs', g1, g2, g3, _⟩ := hf ⟨j / sz, hlt⟩
        rw [hce, ← he] at h2
        obtain ⟨v, hv, hr⟩ := g3 _ c h2
        refine ⟨v, ?_, hr⟩
        obtain ⟨_, _, g4⟩ := World.cells?_some g1
        have g5 := g4 (j % sz) (Nat.mod_lt _ hpos)
        rw [Go.Deep.add_add, haddr, hv, Nat.div_add_mod' j sz] at g5
        exact g5
      have hsa : a = ⟨a.block, a.off, none⟩ := by cases a; simp at hspot; subst hspot; rfl
      have hlm : ((List.ofFn f).map enc).length = len := by simp
      rw [hsa]
      have := RelD.sl (w := w) (A := fun _ => False) sz ((List.ofFn f).map enc) a.block a.off m (fun j => (w.cell? ⟨a.block, a.off + j, none⟩).getD undef) (by rw [hlm]; exact hlc) huni
        (fun j c hj => by obtain ⟨v, hv, _⟩ := key j c hj; exact ⟨fun h => h, by rw [hv]; rfl⟩) (fun j c hj => by obtain ⟨v, hv, hr⟩ := key j c hj; rw [hv]; exact hr)
      rwa [hlm] at this

theorem arg_one {H : Type} {enc : TypeId × Value → H} {W : World} {base : Nat} {t : TypeId} {v : Value} {d : DataW H} {ps : List MemPlace} {α : Type} {cell : α → D} {Good : α → Prop} (h : Dec P t (fun a => [cell a]) Good) (hd : DataW.Trod enc P W 0 (fun _ => true) true t v d ps)
    (hok : Value.okWide P W .any base t v) (hno : ∀ arr, ¬ Value.okWide P W .any base t (.agg arr)) : ∃ a, RelD W (fun _ => False) (cell a) v ∧ ((∀ n ∈ d.weights P t, n ≤ reachBytes) → Good a) := by
  obtain ⟨fuel, hf⟩ := hd
  obtain ⟨a, h1, h2, h3⟩ := h H enc W fuel _ d ps hf
  obtain ⟨u, hu, hr⟩ := h2 0 (cell a) rfl
  have : v.cells = #[v] := by cases v <;> first | rfl | exact absurd hok (hno _)
  rw [this] at hu
  simp at hu
  subst hu
  exact ⟨a, hr, h3⟩

theorem no_agg_slice {W : World} {base : Nat} {t e : TypeId} (ht : P.underlying t = some (.slice e)) : ∀ arr, ¬ Value.okWide P W .any base t (.agg arr) := by
  intro arr h; simp [Value.okWide, ht, Cell.okWide, Cell.ok] at h
end
end Go.DL

namespace Go.DL
open Go.RowKit Go.ChangeShapes Go.WideShapes

section
variable {P : Program}

theorem trodAll_stay {H : Type} {enc : TypeId × Value → H} {W W' : World} {sp : Nat → Bool} (hl : laidOutB P = true) : ∀ {ts : List TypeId} {vs : List Value} {ds : List (DataW H)} {ps : List MemPlace},
    DataW.TrodAll enc P W 0 (fun _ => true) true ts vs ds ps → (∀ t ∈ ts, P.readableRec t = true ∧ t < P.types.size) → (∀ p ∈ ps, W.sameAt W' p) → (∀ p ∈ ps, sp p.block = true) → DataW.TrodAll enc P W' 0 sp true ts vs ds ps
  | [], _, _, _, h, _, _, _ => by
    obtain ⟨rfl, rfl, rfl⟩ := trodAll_nil h
    exact trodAll_mk0
  | t :: ts, _, _, _, h, hr, hs, hp => by
    obtain ⟨v, vs, d, ds, a, b, rfl, rfl, rfl, h1, h2⟩ := trodAll_cons h
    exact ⟨a, b, WideElems.Trod_stays hl (hr t List.mem_cons_self).1 (hr t List.mem_cons_self).2 h1 (fun x hx => hs x (List.mem_append_left _ hx)) (fun x hx => hp x (List.mem_append_left _ hx)),
      trodAll_stay hl h2 (fun t ht => hr t (List.mem_cons_of_mem _ ht)) (fun x hx => hs x (List.mem_append_right _ hx)) (fun x hx => hp x (List.mem_append_right _ hx)), rfl⟩

end
end Go.DL

namespace Go.DL
open Go.RowKit Go.ChangeShapes Go.WideShapes
def DecN (N : Nat) (P : Program) (t : TypeId) {α : Type} (cells : α → List D) (Good : α → Prop) : Prop :=
  ∀ (H : Type) (enc : TypeId × Value → H) (w : World) (fuel : Nat) (cs : List Value) (d : DataW H) (ps : List MemPlace), SizeOf.sizeOf d ≤ N → DataW.trod enc P w 0 (fun _ => true) true fuel t cs = some (d, ps) →
    ∃ a : α, cs.length = (cells a).length ∧ (∀ (j : Nat) (c : D), (cells a)[j]? = some c → ∃ v, cs[j]? = some v ∧ RelD w (fun _ => False) c v) ∧ ((∀ n ∈ d.weights P t, n ≤ reachBytes) → Good a)
def DecFsN (N : Nat) (P : Program) (off : Nat) (L : List (TypeId × Nat)) {α : Type} (cells : α → List D) (Good : α → Prop) : Prop :=
  ∀ (H : Type) (enc : TypeId × Value → H) (w : World) (n : Nat) (cs : List Value) (xs : List (DataW H × List MemPlace)), (∀ x ∈ xs, SizeOf.sizeOf x.1 ≤ N) → xs.length = L.length →
    (∀ (i : Nat) (t : TypeId) (o : Nat), L[i]? = some (t, o) → DataW.trod enc P w 0 (fun _ => true) true n t ((cs.drop o).take (P.cellsOf t)) = xs[i]?) →
    ∃ a : α, (∀ (j : Nat) (c : D), (cells a)[j]? = some c → ∃ v, cs[off + j]? = some v ∧ RelD w (fun _ => False) c v) ∧ ((∀ m ∈ DataW.weightsEach P (L.map (·.1)) (xs.map (·.1)), m ≤ reachBytes) → Good a)
section
variable {P : Program} {N : Nat}
theorem Dec.at {t : TypeId} {α : Type} {cells : α → List D} {Good : α → Prop} (h : Dec P t cells Good) : DecN N P t cells Good := fun H enc w fuel cs d ps _ hd => h H enc w fuel cs d ps hd
theorem DecN.all {t : TypeId} {α : Type} {cells : α → List D} {Good : α → Prop} (h : ∀ N, DecN N P t cells Good) : Dec P t cells Good := fun H enc w fuel cs d ps hd => h (SizeOf.sizeOf d) H enc w fuel cs d ps (Nat.le_refl _) hd
theorem DecN.map {t : TypeId} {α β : Type} {cells : α → List D} {Good : α → Prop} (h : DecN N P t cells Good) (f : α → β) (cells' : β → List D) (Good' : β → Prop) (hc : ∀ a, cells' (f a) = cells a) (hg : ∀ a, Good a → Good' (f a)) : DecN N P t cells' Good' := by
  intro H enc w fuel cs d ps hN hd
  obtain ⟨a, h1, h2, h3⟩ := h H enc w fuel cs d ps hN hd
  exact ⟨f a, by rw [hc]; exact h1, by rw [hc]; exact h2, fun hw => hg a (h3 hw)⟩
theorem DecFsN.nil (off : Nat) : DecFsN N P off [] (fun _ : Unit => []) (fun _ => True) :=
  fun _ _ _ _ _ _ _ _ _ => ⟨(), by simp, fun _ => trivial⟩
theorem DecFsN.cons {off : Nat} {t : TypeId} {L : List (TypeId × Nat)} {α β : Type} {ct : α → List D} {Gt : α → Prop} {cells : β → List D} {Good : β → Prop} (sz : Nat) (hsz : P.cellsOf t = sz) (h1 : DecN N P t ct Gt) (hc : ∀ a, (ct a).length = sz)
    (h2 : DecFsN N P (off + sz) L cells Good) : DecFsN N P off ((t, off) :: L) (fun p : α × β => ct p.1 ++ cells p.2) (fun p => Gt p.1 ∧ Good p.2) := by
  intro H enc w n cs xs hN hl hx
  cases xs with
  | nil => simp at hl
  | cons x xs =>
    obtain ⟨d, ps⟩ := x
    have h0 := hx 0 t off rfl
    simp only [List.getElem?_cons_zero] at h0
    obtain ⟨a, g1, g2, g3⟩ := h1 H enc w n _ d ps (hN (d, ps) List.mem_cons_self) h0
    obtain ⟨b, k1, k2⟩ := h2 H enc w n cs xs (fun x hx => hN x (List.mem_cons_of_mem _ hx)) (by simpa using hl) (fun i t' o hi => by simpa using hx (i + 1) t' o (by simpa using hi))
    refine ⟨(a, b), fun j c hj => ?_, fun hw => ⟨g3 fun m hm => hw m ?_, k2 fun m hm => hw m ?_⟩⟩
    · simp only [List.getElem?_append, hc] at hj
      split at hj
      · obtain ⟨v, hv, hr⟩ := g2 j c hj
        refine ⟨v, ?_, hr⟩
        rw [List.getElem?_take] at hv
        split at hv
        · rwa [List.getElem?_drop] at hv
        · cases hv
      · obtain ⟨v, hv, hr⟩ := k1 _ c hj
        exact ⟨v, by rw [← hv]; congr 1; omega, hr⟩
    · simp only [List.map_cons, DataW.weightsEach]
      exact List.mem_append_left _ hm
    · simp only [List.map_cons, DataW.weightsEach]
      exact List.mem_append_right _ hm

theorem DecN.struct {t : TypeId} {L : List (TypeId × Nat)} {α : Type} {cells : α → List D} {Good : α → Prop} (sz : Nat) (hsz : P.cellsOf t = sz) (hf : fieldsOf P t = some L) (h : DecFsN N P 0 L cells Good) (hc : ∀ a, (cells a).length = sz) : DecN (N + 1) P t cells Good := by
  intro H enc w fuel cs d ps hN hd
  unfold fieldsOf at hf
  split at hf
  · rename_i fs ht
    simp only [Option.some.injEq] at hf
    obtain ⟨xs, n, _, hx, hlen, hxl, hall⟩ := DataW.trod_struct ht hd
    have hsz2 : ∀ x ∈ xs, SizeOf.sizeOf x.1 ≤ N := fun x hx2 => by
      have e : d = .agg (xs.map (·.1)) := congrArg Prod.fst hx
      have h1 := List.sizeOf_lt_of_mem (List.mem_map.2 ⟨x, hx2, rfl⟩ : x.1 ∈ xs.map (·.1))
      rw [e] at hN
      simp only [DataW.agg.sizeOf_spec] at hN
      omega
    obtain ⟨a, h1, h2⟩ := h H enc w n cs xs hsz2 (by rw [← hf]; simpa using hxl) (fun i t' o hi => by
      rw [← hf, List.getElem?_map, Option.map_eq_some_iff] at hi
      obtain ⟨f, hfi, he⟩ := hi
      cases he
      exact hall i f (by simpa using hfi))
    refine ⟨a, by rw [hlen, hsz, hc], fun j c hj => by simpa using h1 j c hj, fun hw => h2 fun m hm => hw m ?_⟩
    have : d = .agg (xs.map (·.1)) := congrArg Prod.fst hx
    rw [this]
    simp only [DataW.weights, ht]
    rw [← hf, List.map_map] at hm
    exact hm
  · cases hf

theorem DecN.slice {t e : TypeId} {α : Type} {cells : α → List D} {Good : α → Prop} (ht : P.underlying t = some (.slice e)) (sz bytes : Nat) (hsz : P.cellsOf e = sz) (hby : P.bytesOf e = bytes) (hpos : 0 < sz) (h : DecN N P e cells Good) (enc : α → D)
    (hce : ∀ a, (enc a).cells = cells a) (hlen : ∀ a, (cells a).length = sz) : DecN (N + 1) P t (fun l : List α => [.sl sz (l.map enc)]) (fun l => l.length * bytes ≤ reachBytes ∧ ∀ a ∈ l, Good a) := by
  intro H en w fuel cs d ps hN hd
  rcases Go.Deep.open_slice ht hd with ⟨rfl, hx⟩ | ⟨a, len, cap, m, n, Dd, Pl, rfl, _, hlc, hcm, hm, hx, hel⟩
  · refine ⟨[], rfl, one_get (.sl0 sz none 0 fun _ => rfl), fun _ => ⟨by simp, by simp⟩⟩
  · simp only [if_true] at hm
    subst hm
    have hall : ∀ i : Fin len, ∃ b : α, ∃ cs' : List Value, w.cells? 0 (a.add (i.1 * sz)) sz = some cs' ∧ cs'.length = sz ∧
        (∀ (j : Nat) (c : D), (cells b)[j]? = some c → ∃ v, cs'[j]? = some v ∧ RelD w (fun _ => False) c v) ∧ ((∀ n ∈ (Dd i.1).weights P e, n ≤ reachBytes) → Good b) := by
      intro i
      obtain ⟨cs', h1, h2⟩ := hel i.1 (by omega)
      rw [hsz] at h1
      have hsz2 : SizeOf.sizeOf (Dd i.1) ≤ N := by
        have e : d = .slice ((List.range len).map Dd) ((List.range (m - len)).map fun j => Dd (len + j)) := congrArg Prod.fst hx
        have h1 := List.sizeOf_lt_of_mem (List.mem_map.2 ⟨i.1, by simp, rfl⟩ : Dd i.1 ∈ (List.range len).map Dd)
        rw [e] at hN
        simp only [DataW.slice.sizeOf_spec] at hN
        omega
      obtain ⟨b, g1, g2, g3⟩ := h H en w n cs' _ _ hsz2 h2
      exact ⟨b, cs', h1, by rw [g1, hlen], g2, g3⟩
    let f : Fin len → α := fun i => Classical.choose (hall i)
    have hf : ∀ i : Fin len, ∃ cs' : List Value, w.cells? 0 (a.add (i.1 * sz)) sz = some cs' ∧ cs'.length = sz ∧
        (∀ (j : Nat) (c : D), (cells (f i))[j]? = some c → ∃ v, cs'[j]? = some v ∧ RelD w (fun _ => False) c v) ∧ ((∀ n ∈ (Dd i.1).weights P e, n ≤ reachBytes) → Good (f i)) := fun i => Classical.choose_spec (hall i)
    have hll : (List.ofFn f).length = len := by simp
    have hw : (∀ n ∈ d.weights P t, n ≤ reachBytes) → (List.ofFn f).length * bytes ≤ reachBytes ∧ ∀ b ∈ List.ofFn f, Good b := by
      intro hw
      have hd' : d = .slice ((List.range len).map Dd) ((List.range (m - len)).map fun j => Dd (len + j)) := congrArg Prod.fst hx
      rw [hd'] at hw
      simp only [DataW.weights, ht] at hw
      refine ⟨?_, fun b hb => ?_⟩
      · have := hw _ List.mem_cons_self
        simp only [List.length_map, List.length_range, hby] at this
        rw [hll]
        exact Nat.le_trans (Nat.mul_le_mul_right _ (by omega)) this
      · obtain ⟨i, hi⟩ := List.mem_ofFn.1 hb
        obtain ⟨cs', _, _, _, g⟩ := hf i
        rw [← hi]
        refine g fun n hn => hw n (List.mem_cons_of_mem _ (List.mem_append_left _ (weightsAll_mem (x := Dd i.1) (List.mem_map.2 ⟨i.1, by simp, rfl⟩) hn)))
    refine ⟨List.ofFn f, rfl, one_get ?_, hw⟩
    have huni : ∀ x ∈ (List.ofFn f).map enc, x.cells.length = sz := by
      intro x hx
      obtain ⟨b, _, rfl⟩ := List.mem_map.1 hx
      rw [hce, hlen]
    by_cases h0 : len = 0
    · subst h0
      have : (List.ofFn f).map enc = [] := by simp
      rw [this]
      exact .sl0 sz (some a) m (fun h => by cases h)
    · have hspot : a.spot = none := by
        obtain ⟨cs', h1, h2, _⟩ := hf ⟨0, by omega⟩
        obtain ⟨_, _, h3⟩ := World.cells?_some h1
        have := h3 0 hpos
        have hc0 : cs'[0]? = some cs'[0] := List.getElem?_eq_getElem (by omega)
        rw [hc0] at this
        simp only [Nat.zero_mul] at this
        simp only [Addr.add, if_true] at this
        unfold World.cell? at this
        split at this
        · split at this
          · cases this
          · rename_i hs; simpa using hs
        · cases this
      have haddr : ∀ k, a.add k = ⟨a.block, a.off + k, none⟩ := by
        intro k
        unfold Addr.add
        split
        · rename_i hk; subst hk; cases a; simp at hspot; subst hspot; rfl
        · rfl
      have key : ∀ (j : Nat) (c : D), (flat ((List.ofFn f).map enc))[j]? = some c → ∃ v, w.cell? ⟨a.block, a.off + j, none⟩ = some v ∧ RelD w (fun _ => False) c v := by
        intro j c hj
        obtain ⟨x, h1, h2⟩ := flat_split hpos huni hj
        rw [List.getElem?_map, Option.map_eq_some_iff] at h1
        obtain ⟨b, hb, rfl⟩ := h1
        obtain ⟨hlt, he⟩ := List.getElem?_eq_some_iff.1 hb
        rw [List.getElem_ofFn] at he
        rw [hll] at hlt
        obtain ⟨cs', g1, g2, g3, _⟩ := hf ⟨j / sz, hlt⟩
        rw [hce, ← he] at h2
        obtain ⟨v, hv, hr⟩ := g3 _ c h2
        refine ⟨v, ?_, hr⟩
        obtain ⟨_, _, g4⟩ := World.cells?_some g1
        have g5 := g4 (j % sz) (Nat.mod_lt _ hpos)
        rw [Go.Deep.add_add, haddr, hv, Nat.div_add_mod' j sz] at g5
        exact g5
      have hsa : a = ⟨a.block, a.off, none⟩ := by cases a; simp at hspot; subst hspot; rfl
      have hlm : ((List.ofFn f).map enc).length = len := by simp
      rw [hsa]
      have := RelD.sl (w := w) (A := fun _ => False) sz ((List.ofFn f).map enc) a.block a.off m (fun j => (w.cell? ⟨a.block, a.off + j, none⟩).getD undef) (by rw [hlm]; exact hlc) huni
        (fun j c hj => by obtain ⟨v, hv, _⟩ := key j c hj; exact ⟨fun h => h, by rw [hv]; rfl⟩) (fun j c hj => by obtain ⟨v, hv, hr⟩ := key j c hj; rw [hv]; exact hr)
      rwa [hlm] at this

end
end Go.DL

namespace Go.DL
open Go.RowKit

section
variable {P : Program} {base : Nat} {Q : DX → DS → Prop} {s : DS}

theorem no_out {E : Env} : ¬ LetsOut (Lift E Q) := by
  rintro ⟨a, w, E', _, x, s, M, hx, _⟩
  cases x <;> exact hx

def Env.within (E : Env) (M : BMap) (w : World) (bx : List (Nat × Box)) (base' : Nat) (ms : List (Deferred × Nat)) : Env :=
  ⟨w, E.A0, base', M, fun k => ∃ p ∈ bx, boxBlk M p = some k, fun i => i ∈ bx.map (·.1), ms⟩

theorem Boxes.within {E : Env} {M : BMap} {w : World} {bx : List (Nat × Box)} (h : Boxes E M w bx) (base' : Nat) (ms : List (Deferred × Nat)) : Boxes (E.within M w bx base' ms) M w bx where
  ok := h.ok
  ids := h.ids
  blks := h.blks
  new := fun p hp k hk => ⟨.inl ⟨p, hp, hk⟩, (h.new p hp k hk).2⟩
  foreign := fun b hb => by
    have h1 := h.foreign b hb
    refine ⟨Nat.lt_of_lt_of_le h1.1 h.frame.size, fun ⟨p, hp, hk⟩ => ?_⟩
    rcases (h.new p hp b hk).1 with h2 | h2
    · exact h1.2 h2
    · have := h1.1; omega
  frame := Fr.refl _ _
  old := fun p hp _ => ⟨List.mem_map.2 ⟨p, hp, rfl⟩, rfl, rfl, rfl⟩

theorem St.call {E : Env} {M M' : BMap} {w w' : World} {a : Act} {s : DS} {bx' : List (Nat × Box)} {base' : Nat} {ms : List (Deferred × Nat)} (hst : St E M w a s) (hbase : E.base ≤ base') (hb : Boxes (E.within M w s.bx base' ms) M' w' bx') :
    St E M' w' a (s.back bx' base') := by
  have hO : ∀ k, (E.within M w s.bx base' ms).O k → (E.O k ∨ E.w0.heap.size ≤ k) ∧ k < w.heap.size := fun k ⟨p, hp, hk⟩ => hst.boxes.new p hp k hk
  have hFr : Fr E.O E.w0 w' := by
    have h1 := hb.frame
    have h2 := hst.boxes.frame
    refine ⟨h1.os.trans h2.os, h1.tape.trans h2.tape, h1.output.trans h2.output, Nat.le_trans h2.size h1.size, fun k hk hok => ?_⟩
    refine (h1.block k (Nat.lt_of_lt_of_le hk h2.size) fun hob => ?_).trans (h2.block k hk hok)
    rcases (hO k hob).1 with h3 | h3
    · exact hok h3
    · omega
  have hBox : Boxes E M' w' bx' := {
    ok := hb.ok
    ids := hb.ids
    blks := hb.blks
    new := fun p hp k hk => by
      obtain ⟨h1, h2⟩ := hb.new p hp k hk
      refine ⟨?_, h2⟩
      rcases h1 with h1 | h1
      · exact (hO k h1).1
      · exact .inr (Nat.le_trans hst.boxes.frame.size h1)
    foreign := hst.boxes.foreign
    frame := hFr
    old := fun p hp hlt => by
      obtain ⟨h1, h2, h3, h4⟩ := hb.old p hp (Nat.lt_of_lt_of_le hlt hbase)
      obtain ⟨p0, hp0, he⟩ := List.mem_map.1 h1
      have := hst.boxes.old p0 hp0 (by rw [he]; exact hlt)
      rw [he] at this
      obtain ⟨g1, g2, g3, g4⟩ := this
      exact ⟨g1, h2.trans g2, h3.trans g3, h4.trans g4⟩ }
  have hKeeps : Keeps w (Av E.A0 M s.bx) w' (Av E.A0 M' bx') := by
    intro b off u h1 h2
    have hlt := World.block_lt_of_cell? w ⟨b, off, none⟩ h2
    have hnO : ¬ (E.within M w s.bx base' ms).O b := fun hob => h1 (.inr hob)
    refine ⟨fun h3 => ?_, ?_⟩
    · rcases h3 with h3 | ⟨p, hp, hk⟩
      · exact h1 (.inl h3)
      · rcases (hb.new p hp b hk).1 with h4 | h4
        · exact hnO h4
        · exact absurd hlt (Nat.not_lt.2 h4)
    · rw [World.cell?_of_block (hb.frame.block b hlt hnO)]; exact h2
  have hlive : ∀ i, liveIn bx' base' i = true → M'.blk i = M.blk i ∧ M'.rv i = M.rv i ∧ M'.sz i = M.sz i := by
    intro i hi
    simp only [liveIn, Bool.and_eq_true, List.any_eq_true, beq_iff_eq] at hi
    obtain ⟨h1, p, hp, he⟩ := hi
    have hlt : i < base' := by simpa [Nat.blt_eq] using h1
    obtain ⟨_, h2, h3, h4⟩ := hb.old p hp (by rw [he]; exact hlt)
    rw [he] at h2 h3 h4
    exact ⟨h2, h3, h4⟩
  refine ⟨hst.defers, by simp [DS.back, hst.size], fun t l hl => ?_, hBox⟩
  simp only [DS.back, List.getElem?_map, Option.map_eq_some_iff] at hl
  obtain ⟨l', hl', rfl⟩ := hl
  exact LV.keep_rel hlive ((hst.slots t l' hl').mono hKeeps)

end
end Go.DL

namespace Go.DL
open Go.RowKit

section
variable {P : Program} {w : World} {M : BMap} {base : Nat} {Q : DX → DS → Prop} {s : DS}

theorem TL_estep {ops : Array Oper} {o : Oper} {rest : List Oper} (hg : o.guard = none) (s' : DS) (hst : ∀ E M w a, E.base = base → St E M w a s → EStep P o E w a s') (h : TL P base ops rest Q s') : TL P base ops (o :: rest) Q s := by
  intro E M w a hE hs
  refine wpList_plain hg fun K hK => ?_
  exact hst E M w a hE hs K _ fun v w' M' hst' => hK _ _ (h E M' w' _ hE hst')

end
end Go.DL

namespace Go.DL
open Go.RowKit Go.Maps

section
variable {P : Program} {w : World} {M : BMap} {base : Nat} {Q : DX → DS → Prop} {s : DS}

end
end Go.DL

namespace Go.DL
open Go.RowKit

def renN (i j k : Nat) : Nat := match k == i with | true => j | false => k
def C.ren (i j : Nat) : C → C
  | .own k => .own (renN i j k)
  | .ref k o => .ref (renN i j k) o
  | .rref k x o => .rref (renN i j k) x o
  | .part k x o => .part (renN i j k) x o
  | .fn f caps => match caps.any (fun c => match c with | .inl k => k == i | .inr _ => false) with | true => .junk | false => .fn f caps
  | c => c
def LV.ren (i j : Nat) : LV → LV
  | .one c => .one (c.ren i j)
  | .agg cs => .agg (cs.map (C.ren i j))
  | .tup vs => .tup (vs.map fun p => (p.1, p.2.map (C.ren i j)))
def Box.ren (i j : Nat) : Box → Box
  | .var cs => .var (cs.map (C.ren i j))
  | .nest e es c => .nest e es (c.ren i j)
  | b => b
def DS.ren (i j : Nat) (s : DS) : DS := ⟨(s.drop j).sl.map (LV.ren i j), (s.drop j).bx.map fun p => (renN i j p.1, p.2.ren i j)⟩

section
variable {P : Program} {w : World} {A : Nat → Prop} {M : BMap} {i j : Nat}

theorem renN_M (h : M.blk j = M.blk i ∧ M.rv j = M.rv i ∧ M.sz j = M.sz i) (k : Nat) : M.blk (renN i j k) = M.blk k ∧ M.rv (renN i j k) = M.rv k ∧ M.sz (renN i j k) = M.sz k := by
  unfold renN
  split
  · rename_i hk
    have : k = i := by simpa using hk
    subst this; exact h
  · exact ⟨rfl, rfl, rfl⟩
theorem C.ren_rel (h : M.blk j = M.blk i ∧ M.rv j = M.rv i ∧ M.sz j = M.sz i) {c : C} {v : Value} (hc : C.rel w A M c v) : C.rel w A M (c.ren i j) v := by
  cases c with
  | own k => simp only [C.ren, C.rel, (renN_M h k).2.1]; exact hc
  | ref k o => simp only [C.ren, C.rel, (renN_M h k).1]; exact hc
  | rref k x o => simp only [C.ren, C.rel, (renN_M h k).1, (renN_M h k).2.2]; exact hc
  | part k x o => simp only [C.ren, C.rel, (renN_M h k).1, (renN_M h k).2.2]; exact hc
  | fn f caps => simp only [C.ren]; split <;> first | trivial | exact hc
  | _ => exact hc
theorem cells_ren (h : M.blk j = M.blk i ∧ M.rv j = M.rv i ∧ M.sz j = M.sz i) {cs : List C} {arr : Array Value} (hc : cellsRel w A M cs arr) : cellsRel w A M (cs.map (C.ren i j)) arr := by
  refine ⟨by simp [hc.1], fun k c hk => ?_⟩
  simp only [List.getElem?_map, Option.map_eq_some_iff] at hk
  obtain ⟨c', hc', rfl⟩ := hk
  obtain ⟨u, hu, hr⟩ := hc.2 k c' hc'
  exact ⟨u, hu, C.ren_rel h hr⟩
theorem LV.ren_rel (h : M.blk j = M.blk i ∧ M.rv j = M.rv i ∧ M.sz j = M.sz i) {l : LV} {v : Value} (hl : LV.rel w A M l v) : LV.rel w A M (l.ren i j) v := by
  cases l with
  | one c => exact C.ren_rel h hl
  | agg cs => exact let ⟨arr, h1, h2⟩ := hl; ⟨arr, h1, cells_ren h h2⟩
  | tup ps =>
    obtain ⟨arr, h1, h2, h3⟩ := hl
    refine ⟨arr, h1, by simp [h2], fun k p hk => ?_⟩
    simp only [List.getElem?_map, Option.map_eq_some_iff] at hk
    obtain ⟨q, hq, rfl⟩ := hk
    obtain ⟨u, hu, hr⟩ := h3 k q hq
    refine ⟨u, hu, ?_⟩
    obtain ⟨b, cs⟩ := q
    cases b with
    | true => exact let ⟨arr, h1, h2⟩ := hr; ⟨arr, h1, cells_ren h h2⟩
    | false =>
      match cs, hr with
      | [], _ => trivial
      | [c], hr => exact C.ren_rel h hr
      | _ :: _ :: _, _ => trivial
theorem boxBlk_ren (h : M.blk j = M.blk i ∧ M.rv j = M.rv i ∧ M.sz j = M.sz i) (k : Nat) (b : Box) : boxBlk M (renN i j k, b.ren i j) = boxBlk M (k, b) := by
  cases b <;> simp [boxBlk, Box.ren, renN_M h k]

theorem DS.le_ren {base : Nat} (s : DS) (i j : Nat) (hij : (i == j) = false) (hb : Nat.ble base j = true) : ∀ (E : Env) (M : BMap) (w : World) (a : Act), E.base = base → St E M w a s → ∃ M', St E M' w a (s.ren i j) := by
  intro E M w a hE h
  have hne : i ≠ j := by simpa using hij
  have hbase : E.base ≤ j := by rw [hE]; exact Nat.le_of_ble_eq_true hb
  have h1 : St E (M.upd j (M.blk i) (M.rv i) (M.sz i)) w a (s.drop j) := (h.toA.drop j (M.blk i) (M.rv i) (M.sz i)).toSt fun b hb => Av_drop hb
  refine ⟨M.upd j (M.blk i) (M.rv i) (M.sz i), ?_⟩
  have hM : (M.upd j (M.blk i) (M.rv i) (M.sz i)).blk j = (M.upd j (M.blk i) (M.rv i) (M.sz i)).blk i ∧ (M.upd j (M.blk i) (M.rv i) (M.sz i)).rv j = (M.upd j (M.blk i) (M.rv i) (M.sz i)).rv i ∧ (M.upd j (M.blk i) (M.rv i) (M.sz i)).sz j = (M.upd j (M.blk i) (M.rv i) (M.sz i)).sz i := by
    simp [BMap.upd, hne]
  generalize M.upd j (M.blk i) (M.rv i) (M.sz i) = M' at h1 hM
  have hbx : (s.ren i j).bx.map (boxBlk M') = (s.drop j).bx.map (boxBlk M') := by
    simp only [DS.ren, List.map_map]
    exact List.map_congr_left fun p _ => boxBlk_ren hM p.1 p.2
  have hAv : ∀ b, Av E.A0 M' (s.ren i j).bx b ↔ Av E.A0 M' (s.drop j).bx b := by
    intro b
    have : ∀ bx : List (Nat × Box), (∃ p ∈ bx, boxBlk M' p = some b) ↔ some b ∈ bx.map (boxBlk M') := by simp
    unfold Av
    rw [this, this, hbx]
  have hk : Keeps w (Av E.A0 M' (s.drop j).bx) w (Av E.A0 M' (s.ren i j).bx) := Keeps.sub fun b hb => (hAv b).1 hb
  have hmem : ∀ p ∈ (s.ren i j).bx, ∃ q ∈ (s.drop j).bx, p = (renN i j q.1, q.2.ren i j) := fun p hp => by
    obtain ⟨q, hq, rfl⟩ := List.mem_map.1 hp; exact ⟨q, hq, rfl⟩
  refine ⟨h1.defers, by rw [h1.size]; simp [DS.ren], fun t l hl => ?_, ?_⟩
  · simp only [DS.ren, List.getElem?_map, Option.map_eq_some_iff] at hl
    obtain ⟨l', hl', rfl⟩ := hl
    exact LV.ren_rel hM ((h1.slots t l' hl').mono hk)
  · refine {
      ok := fun id b hb => ?_
      ids := ?_
      blks := ?_
      new := fun p hp k hpk => ?_
      foreign := h1.boxes.foreign
      frame := h1.boxes.frame
      old := fun p hp hlt => ?_ }
    · obtain ⟨q, hq, he⟩ := hmem _ hb
      cases he
      have hok := (h1.boxes.ok q.1 q.2 hq).mono hk (fun _ _ => rfl)
      have hr := renN_M hM q.1
      revert hok
      cases q.2 with
      | var cs =>
        rintro ⟨arr, T, g1, g2⟩
        exact ⟨arr, T, by rw [hr.1]; exact g1, cells_ren hM g2⟩
      | row e sz es =>
        rintro ⟨xs, g1, g2, g3, g4, g5⟩
        exact ⟨xs, by rw [hr.2.1]; exact g1, g2, by rw [hr.2.2]; exact g3, g4, by rw [hr.1, hr.2.1]; exact g5⟩
      | map Q k e m =>
        rintro ⟨g1, g2⟩
        exact ⟨by rw [hr.1, hr.2.1]; exact g1, by rw [hr.1]; exact g2⟩
      | mapl Q k l =>
        intro hok
        show maplOK _ _ _ _ _ _ _
        rw [hr.1, hr.2.1]; exact hok
      | obj p =>
        rintro ⟨o, g1, g2, g3⟩
        exact ⟨o, by rw [hr.1]; exact g1, g2, by rw [hr.1, hr.2.1]; exact g3⟩
      | nest e es c =>
        rintro ⟨xs, v, g1, g2, g3, g4, g5, g6⟩
        exact ⟨xs, v, by rw [hr.2.1]; exact g1, g2, by rw [hr.2.2]; exact g3, g4, C.ren_rel hM g5, by rw [hr.1, hr.2.1]; exact g6⟩
    · have : (s.ren i j).bx.map (·.1) = ((s.drop j).bx.map (·.1)).map (renN i j) := by simp [DS.ren, List.map_map, Function.comp_def]
      rw [this]
      have hfree : ∀ x ∈ (s.drop j).bx.map (·.1), x ≠ j := fun x hx => by
        obtain ⟨p, hp, rfl⟩ := List.mem_map.1 hx
        exact drop_free p hp
      have hnd := h1.boxes.ids
      generalize (s.drop j).bx.map (·.1) = ids at hnd hfree
      refine List.pairwise_map.2 (List.Pairwise.imp_of_mem ?_ hnd)
      intro x y hx hy hxy e
      have h2 := hfree x hx
      have h3 := hfree y hy
      have hr : ∀ z, z ≠ i → renN i j z = z := fun z hz => by
        unfold renN
        split
        · rename_i hk; exact absurd (by simpa using hk) hz
        · rfl
      have hi : renN i j i = j := by simp [renN]
      by_cases a1 : x = i
      · subst a1
        rw [hi, hr y (fun e => hxy e.symm)] at e
        exact h3 e.symm
      · rw [hr x a1] at e
        by_cases a2 : y = i
        · subst a2; rw [hi] at e; exact h2 e
        · rw [hr y a2] at e; exact hxy e
    · rw [filterMap_of_map (boxBlk M'), hbx, ← filterMap_of_map]; exact h1.boxes.blks
    · obtain ⟨q, hq, rfl⟩ := hmem p hp
      rw [boxBlk_ren hM] at hpk
      exact h1.boxes.new q hq k hpk
    · obtain ⟨q, hq, rfl⟩ := hmem p hp
      have hr := renN_M hM q.1
      simp only at hlt ⊢
      by_cases he : q.1 = i
      · have : renN i j q.1 = j := by simp [renN, he]
        omega
      · have e : renN i j q.1 = q.1 := by
          unfold renN
          split
          · rename_i hk; exact absurd (by simpa using hk) he
          · rfl
        rw [e] at hlt ⊢
        exact h1.boxes.old q hq hlt

end
end Go.DL

namespace Go.DL
open Go.RowKit

def DS.order (ids : List Nat) (s : DS) : DS := ⟨s.sl, ids.filterMap fun i => (s.bx.lookup i).map fun b => (i, b)⟩

theorem lookup_of_mem {bx : List (Nat × Box)} (hn : (bx.map (·.1)).Nodup) {i : Nat} {b : Box} (h : (i, b) ∈ bx) : bx.lookup i = some b := by
  induction bx with
  | nil => cases h
  | cons p l ih =>
    obtain ⟨j, c⟩ := p
    rw [List.map_cons, List.nodup_cons] at hn
    rcases List.mem_cons.1 h with e | h'
    · cases e; simp [List.lookup]
    · have hne : i ≠ j := fun e => hn.1 (e ▸ List.mem_map.2 ⟨(i, b), h', rfl⟩)
      rw [List.lookup, show (i == j) = false by simpa using hne]
      exact ih hn.2 h'

theorem nodup_of_map {α β : Type} {f : α → β} : ∀ {l : List α}, (l.map f).Nodup → l.Nodup
  | [], _ => List.nodup_nil
  | x :: l, h => by
    rw [List.map_cons, List.nodup_cons] at h
    exact List.nodup_cons.2 ⟨fun hx => h.1 (List.mem_map.2 ⟨x, hx, rfl⟩), nodup_of_map h.2⟩

theorem order_mem {ids : List Nat} {s : DS} {i : Nat} {b : Box} : (i, b) ∈ (s.order ids).bx ↔ i ∈ ids ∧ s.bx.lookup i = some b := by
  simp only [DS.order, List.mem_filterMap, Option.map_eq_some_iff]
  constructor
  · rintro ⟨j, hj, c, hc, e⟩; cases e; exact ⟨hj, hc⟩
  · rintro ⟨hi, hb⟩; exact ⟨i, hi, b, hb, rfl⟩

theorem DS.le_order (s : DS) (ids : List Nat) (hn : ids.Nodup) (hall : ∀ p ∈ s.bx, p.1 ∈ ids) : s.Le (s.order ids) := by
  intro E M w a h
  have hmem : ∀ p : Nat × Box, p ∈ (s.order ids).bx ↔ p ∈ s.bx := by
    rintro ⟨i, b⟩
    rw [order_mem]
    constructor
    · rintro ⟨_, hb⟩; exact lookup_mem hb
    · intro hp; exact ⟨hall _ hp, lookup_of_mem h.boxes.ids hp⟩
  have hav : ∀ b, Av E.A0 M (s.order ids).bx b ↔ Av E.A0 M s.bx b := fun b => by
    unfold Av
    refine or_congr Iff.rfl ⟨fun ⟨p, hp, hk⟩ => ⟨p, (hmem p).1 hp, hk⟩, fun ⟨p, hp, hk⟩ => ⟨p, (hmem p).2 hp, hk⟩⟩
  have hnd : ((s.order ids).bx.map (·.1)).Nodup := by
    have : (s.order ids).bx.map (·.1) = ids.filterMap fun i => (s.bx.lookup i).map fun _ => i := by
      simp only [DS.order, List.map_filterMap, Option.map_map]; rfl
    rw [this]
    exact List.Pairwise.filterMap (S := fun a b => a ≠ b) _ (by
      intro a a' hne b hb b' hb' e
      simp only [Option.map_eq_some_iff] at hb hb'
      obtain ⟨_, _, rfl⟩ := hb
      obtain ⟨_, _, rfl⟩ := hb'
      exact hne e) hn
  have hndp : (s.order ids).bx.Nodup := nodup_of_map hnd
  have hnds : s.bx.Nodup := nodup_of_map h.boxes.ids
  have hperm : (s.order ids).bx.Perm s.bx := (List.perm_ext_iff_of_nodup hndp hnds).2 hmem
  refine ⟨M, h.defers, h.size, fun t l hl => (h.slots t l hl).mono (Keeps.sub fun b hb => (hav b).1 hb), ?_⟩
  exact {
    ok := fun id b hb => (h.boxes.ok id b ((hmem _).1 hb)).mono (Keeps.sub fun b hb => (hav b).1 hb) (fun _ _ => rfl)
    ids := hnd
    blks := (hperm.filterMap _).nodup_iff.2 h.boxes.blks
    new := fun p hp => h.boxes.new p ((hmem p).1 hp)
    foreign := h.boxes.foreign
    frame := h.boxes.frame
    old := fun p hp => h.boxes.old p ((hmem p).1 hp) }

section
variable {P : Program} {base : Nat} {ops : Array Oper} {Q : DX → DS → Prop} {s : DS}

theorem Oper.wp_mono2 {o : Oper} {a : Act} {w : World} {K K' : Act → World → Prop} {R R' : Exit → Act → World → Prop} (h : ∀ a w, K a w → K' a w) (hR : ∀ e a w, e ≠ .normal → R e a w → R' e a w)
    (hh : o.wp P a w K R) : o.wp P a w K' R' := by
  unfold Oper.wp at *
  generalize (execOp a.eval o).run P w = r at *
  cases r with
  | ok n w' =>
    cases n <;> simp only [Oper.upon] at hh ⊢ <;>
      first
        | exact h _ _ hh
        | exact Calls.mono hh (fun e w'' he => by cases e <;> first | exact h _ _ he | exact hR _ _ _ (by simp) he | exact (fun ⟨a, w, y⟩ => ⟨a, w, hR _ _ _ (by simp) y⟩ : LetsOut R → LetsOut R') he)
        | exact Rows.mono hh (fun _ _ he => h _ _ he)
        | exact hh
  | halt x w' => cases x <;> simp only [Oper.upon] at hh ⊢ <;> first | exact hR _ _ _ (by simp) hh | exact hh

theorem wpAny_mono {R R' : Exit → Act → World → Prop} (h : ∀ e a w, R e a w → R' e a w) : ∀ (n : Nat) (l : Array Bool) (a : Act) (w : World), wpAny P .any ops R n l a w → wpAny P .any ops R' n l a w
  | 0, _, _, _, hh => ⟨hh.1, h _ _ _ hh.2⟩
  | n + 1, l, a, w, hh => ⟨fun e => h _ _ _ (hh.1 e), fun i hi => by
      have := hh.2 i hi
      unfold wpOp at this ⊢
      split
      · rename_i ho; rw [ho] at this; exact wpAny_mono h n _ _ _ this
      · rename_i o ho
        rw [ho] at this
        dsimp only at this
        split
        · rename_i hw
          rw [if_pos hw] at this
          exact this.imp (Oper.wp_mono2 (fun a w => wpAny_mono h n _ a w) fun e a w _ => h e a w) (fun ⟨x, a', w', y⟩ => ⟨x, a', w', h _ _ _ y⟩)
        · rename_i hw
          rw [if_neg hw] at this
          exact wpAny_mono h n _ _ _ this⟩

def QE (Q : DX → DS → Prop) (s1 : DS) : DX → DS → Prop
  | .normal, s => s.Le s1
  | x, s => Q x s

def Edges (P : Program) (base : Nat) (ops : Array Oper) (Q : DX → DS → Prop) (st : Nat → DS) : List (Nat × Nat) → Prop
  | [] => True
  | (m, i) :: l => (match ops[i]? with | some o => TL P base ops [o] (QE Q (st (m + 2 ^ i))) (st m) | none => False) ∧ Edges P base ops Q st l

theorem Edges.get {st : Nat → DS} : ∀ {l : List (Nat × Nat)}, Edges P base ops Q st l → ∀ {m i : Nat}, (m, i) ∈ l → ∃ o, ops[i]? = some o ∧ TL P base ops [o] (QE Q (st (m + 2 ^ i))) (st m)
  | [], _, _, _, h => by cases h
  | (m', i') :: l, h, m, i, hm => by
    rcases List.mem_cons.1 hm with e | hm
    · cases e
      have h1 := h.1
      split at h1
      · exact ⟨_, by assumption, h1⟩
      · exact h1.elim
    · exact Edges.get h.2 hm

theorem Edges.cons {l : List Oper} {st : Nat → DS} {m i : Nat} {rest : List (Nat × Nat)} (hi : Nat.blt i l.length = true) (hT : TL P base l.toArray ((l.drop i).take 1) (QE Q (st (m + 2 ^ i))) (st m)) (hr : Edges P base l.toArray Q st rest) : Edges P base l.toArray Q st ((m, i) :: rest) := by
  have hlt : i < l.length := by simpa [Nat.blt_eq] using hi
  refine ⟨?_, hr⟩
  have e : l.toArray[i]? = some l[i] := by simp [hlt]
  rw [e]
  rw [List.drop_eq_getElem_cons hlt] at hT
  exact hT

theorem QE_end {s1 : DS} (h : s.Le s1) : QE Q s1 .normal s := h
theorem QE_turn {s1 : DS} (live dead ids : List Nat) (h : (s.prune live dead).order ids = s1) (hn : decide ids.Nodup = true) (hall : ((s.prune live dead).bx.all fun p => ids.contains p.1) = true) : QE Q s1 .normal s :=
  (DS.le_prune s live dead).trans ((DS.le_order _ ids (of_decide_eq_true hn) (fun p hp => by
    have := List.all_eq_true.1 hall p hp
    simpa using this)).trans (DS.le_of_eq h))
end
end Go.DL
namespace Go.DL
section
variable {P : Program} {base : Nat} {Q : DX → DS → Prop} {s : DS}
theorem le_order {s1 : DS} (live ids : List Nat) (h : (s.prune live []).order ids = s1) (hn : decide ids.Nodup = true) (hall : ((s.prune live []).bx.all fun p => ids.contains p.1) = true) : s.Le s1 :=
  QE_turn (Q := fun _ _ => True) live [] ids h hn hall
end
end Go.DL

namespace Go.DL
open Go.RowKit

def C.mapi (ρ : Nat → Nat) : C → C
  | .own i => .own (ρ i)
  | .ref i o => .ref (ρ i) o
  | .rref i k o => .rref (ρ i) k o
  | .part i k o => .part (ρ i) k o
  | .fn f caps => .fn f (caps.map fun c => match c with | .inl i => .inl (ρ i) | .inr d => .inr d)
  | c => c
def LV.mapi (ρ : Nat → Nat) : LV → LV
  | .one c => .one (c.mapi ρ)
  | .agg cs => .agg (cs.map (C.mapi ρ))
  | .tup vs => .tup (vs.map fun p => (p.1, p.2.map (C.mapi ρ)))
def Box.mapi (ρ : Nat → Nat) : Box → Box
  | .var cs => .var (cs.map (C.mapi ρ))
  | .nest e es c => .nest e es (c.mapi ρ)
  | b => b
def BMap.via (M : BMap) (ρ : Nat → Nat) : BMap := ⟨fun i => M.blk (ρ i), fun i => M.rv (ρ i), fun i => M.sz (ρ i)⟩
def Box.keep (ok : Nat → Bool) : Box → Box
  | .var cs => .var (cs.map (C.keep ok))
  | .nest e es c => .nest e es (c.keep ok)
  | b => b

section
variable {P : Program} {w : World} {A : Nat → Prop} {M M' : BMap} {ρ : Nat → Nat}

theorem capRel_via {c : Sum Nat D} {v : Value} : capRel w A (M.via ρ) c v ↔ capRel w A M (match c with | .inl i => .inl (ρ i) | .inr d => .inr d) v := by
  cases c <;> exact Iff.rfl
theorem C.mapi_rel {c : C} {v : Value} : C.rel w A (M.via ρ) c v ↔ C.rel w A M (c.mapi ρ) v := by
  cases c with
  | fn f caps =>
    constructor
    · rintro ⟨arr, h1, h2, h3⟩
      refine ⟨arr, h1, by simp [h2], fun j c hj => ?_⟩
      simp only [List.getElem?_map, Option.map_eq_some_iff] at hj
      obtain ⟨c', hc', rfl⟩ := hj
      obtain ⟨u, hu, hr⟩ := h3 j c' hc'
      exact ⟨u, hu, capRel_via.1 hr⟩
    · rintro ⟨arr, h1, h2, h3⟩
      refine ⟨arr, h1, by simpa using h2, fun j c hj => ?_⟩
      obtain ⟨u, hu, hr⟩ := h3 j _ (by rw [List.getElem?_map, hj]; rfl)
      exact ⟨u, hu, capRel_via.2 hr⟩
  | _ => exact Iff.rfl
theorem cells_mapi {cs : List C} {arr : Array Value} : cellsRel w A (M.via ρ) cs arr ↔ cellsRel w A M (cs.map (C.mapi ρ)) arr := by
  constructor
  · rintro ⟨h1, h2⟩
    refine ⟨by simp [h1], fun j c hj => ?_⟩
    simp only [List.getElem?_map, Option.map_eq_some_iff] at hj
    obtain ⟨c', hc', rfl⟩ := hj
    obtain ⟨u, hu, hr⟩ := h2 j c' hc'
    exact ⟨u, hu, C.mapi_rel.1 hr⟩
  · rintro ⟨h1, h2⟩
    refine ⟨by simpa using h1, fun j c hj => ?_⟩
    obtain ⟨u, hu, hr⟩ := h2 j _ (by rw [List.getElem?_map, hj]; rfl)
    exact ⟨u, hu, C.mapi_rel.2 hr⟩
theorem LV.mapi_rel {l : LV} {v : Value} : LV.rel w A (M.via ρ) l v ↔ LV.rel w A M (l.mapi ρ) v := by
  cases l with
  | one c => exact C.mapi_rel
  | agg cs => exact exists_congr fun arr => and_congr_right fun _ => cells_mapi
  | tup ps =>
    have hp : ∀ (p : Bool × List C) (u : Value), partRel w A (M.via ρ) p u ↔ partRel w A M (p.1, p.2.map (C.mapi ρ)) u := by
      rintro ⟨b, cs⟩ u
      cases b with
      | true => exact exists_congr fun arr => and_congr_right fun _ => cells_mapi
      | false =>
        match cs with
        | [] => exact Iff.rfl
        | [c] => exact C.mapi_rel
        | _ :: _ :: _ => exact Iff.rfl
    constructor
    · rintro ⟨arr, h1, h2, h3⟩
      refine ⟨arr, h1, by simp [h2], fun j p hj => ?_⟩
      simp only [List.getElem?_map, Option.map_eq_some_iff] at hj
      obtain ⟨q, hq, rfl⟩ := hj
      obtain ⟨u, hu, hr⟩ := h3 j q hq
      exact ⟨u, hu, (hp q u).1 hr⟩
    · rintro ⟨arr, h1, h2, h3⟩
      refine ⟨arr, h1, by simpa using h2, fun j p hj => ?_⟩
      obtain ⟨u, hu, hr⟩ := h3 j (p.1, p.2.map (C.mapi ρ)) (by rw [List.getElem?_map, hj]; rfl)
      exact ⟨u, hu, (hp p u).2 hr⟩
theorem boxBlk_mapi {i : Nat} {b : Box} : boxBlk (M.via ρ) (i, b) = boxBlk M (ρ i, b.mapi ρ) := by cases b <;> rfl
theorem BoxOK_mapi {i : Nat} {b : Box} : BoxOK w A (M.via ρ) i b ↔ BoxOK w A M (ρ i) (b.mapi ρ) := by
  cases b with
  | var cs => exact exists_congr fun arr => exists_congr fun T => and_congr_right fun _ => cells_mapi
  | row e sz es => exact Iff.rfl
  | map P k e m => exact Iff.rfl
  | obj p => exact Iff.rfl
  | mapl Q k l => exact Iff.rfl
  | nest e es c => exact exists_congr fun xs => exists_congr fun v => and_congr_right fun _ => and_congr_right fun _ => and_congr_right fun _ => and_congr_right fun _ => and_congr_left fun _ => C.mapi_rel
theorem BoxOK_keep {ok : Nat → Bool} {i : Nat} {b : Box} (hM : ∀ i, ok i = true → M'.blk i = M.blk i ∧ M'.rv i = M.rv i ∧ M'.sz i = M.sz i) (hi : ok i = true) (h : BoxOK w A M i b) : BoxOK w A M' i (b.keep ok) := by
  obtain ⟨h1, h2, h3⟩ := hM i hi
  cases b with
  | var cs =>
    obtain ⟨arr, T, g1, g2⟩ := h
    exact ⟨arr, T, by rw [h1]; exact g1, cells_keep hM g2⟩
  | row e sz es =>
    obtain ⟨xs, g1, g2, g3, g4, g5⟩ := h
    exact ⟨xs, by rw [h2]; exact g1, g2, by rw [h3]; exact g3, g4, fun k hk => by rw [h1]; exact g5 k (by rw [← h2]; exact hk)⟩
  | map P k e m =>
    obtain ⟨g1, n, g2⟩ := h
    exact ⟨by rw [h1, h2]; exact g1, n, by rw [h1]; exact g2⟩
  | mapl Q k l =>
    show maplOK _ _ _ _ _ _ _
    rw [h1, h2]; exact h
  | obj p =>
    obtain ⟨o, g1, g2, g3⟩ := h
    exact ⟨o, by rw [h1]; exact g1, g2, by rw [h1, h2]; exact g3⟩
  | nest e es c =>
    obtain ⟨xs, v, g1, g2, g3, g4, g5, g6⟩ := h
    exact ⟨xs, v, by rw [h2]; exact g1, g2, by rw [h3]; exact g3, g4, C.keep_rel hM g5, by rw [h1, h2]; exact g6⟩
theorem boxBlk_keep {ok : Nat → Bool} {i : Nat} {b : Box} (hM : M'.blk i = M.blk i ∧ M'.rv i = M.rv i) : boxBlk M' (i, b.keep ok) = boxBlk M (i, b) := by
  cases b <;> simp [Box.keep, boxBlk, hM.1, hM.2]
end

inductive CO where
  | ret (l : LV) (bx : List (Nat × Box))
  | pan (d : D) (bx : List (Nat × Box))

def envOf (w : World) (A : Nat → Prop) (n : Nat) (M : BMap) (bx : List (Nat × Box)) : Env := ⟨w, A, n, M, fun k => ∃ p ∈ bx, boxBlk M p = some k, fun i => i ∈ bx.map (·.1), []⟩

def COok (E : Env) (M' : BMap) (w' : World) (e : Ending) : CO → Prop
  | .ret l bx => Boxes E M' w' bx ∧ ∃ v, e = .returned v ∧ LV.rel w' (Av E.A0 M' bx) M' l v
  | .pan d bx => Boxes E M' w' bx ∧ ∃ v, e = .panicked [{ v := v, recovered := false }] ∧ RelD w' (Av E.A0 M' bx) d v

def CT (P : Program) (f : FuncId) (n : Nat) (ls : List LV) (bx : List (Nat × Box)) (R : CO → Prop) : Prop :=
  Callable P f ∧ ∀ (w : World) (A : Nat → Prop) (M : BMap) (vs : Array Value), Boxes (envOf w A n M bx) M w bx → vs.size = ls.length → (∀ (j : Nat) (l : LV), ls[j]? = some l → ∃ u, vs[j]? = some u ∧ LV.rel w (Av A M bx) M l u) →
    Calls P f vs w fun e w' => ∃ M' x, R x ∧ COok (envOf w A n M bx) M' w' e x

def ctPost (P : Program) (fn : Func) (R : CO → Prop) : DX → DS → Prop
  | .normal, s => ∃ ls, dres P s fn.results.toList = some ls ∧ R (.ret (resLV ls) s.bx)
  | .ret, s => ∃ ls, dres P s fn.results.toList = some ls ∧ R (.ret (resLV ls) s.bx)
  | .panic d, s => d.scalar = true ∧ R (.pan d s.bx)
  | _, _ => False

theorem takeAll_panics {P : Program} {fn : Func} {tmps : Array Value} {R : Ending → World → Prop} {ch : List PanicEntry} : ∀ (ds : List Deferred) (w w' : World), takeAll P ds w w' → R (.panicked ch) w' →
    LeavesInM Fence.wide 0 P fn tmps R ds (.panicking ch) w
  | [], w, w', h, hr => by
    have : w' = w := h
    subst this
    exact hr
  | d :: ds, w, w', ⟨r, w1, h1, h2, h3⟩, hr => ⟨by simp, .inl ⟨r, w1, h1, h2, takeAll_panics ds w1 w' h3 hr⟩⟩

theorem calls_of_wpMP {P : Program} {f : FuncId} {fn : Func} {c : Code} {args : Array Value} {w : World} {R : Ending → World → Prop} (hf : P.funcs[f]? = some fn) (hb : fn.body = some c)
    (h : c.wp P (fun e a w' => ∃ w2, takeAll P a.defers w' w2 ∧ (((e = .normal ∨ e = .ret) ∧ ∃ v, (results fn a.tmps).run P w2 = .ok v w2 ∧ R (.returned v) w2) ∨ ∃ ch, e = .panic ch ∧ R (.panicked ch) w2))
      { tmps := args ++ Array.replicate (fn.ntmps - args.size) undef, defers := [] } w) : Calls P f args w R := by
  refine (callsIn_wide (n := 0)).1 (callsIn_of_wp_marks hf hb trivial (wpIn_wide.2 (wp_mono h ?_)) rfl)
  rintro e a w' ⟨w2, h1, ⟨he, h2⟩ | ⟨ch, rfl, h2⟩⟩
  · have key := takeAll_leaves a.defers w' w2 h1 h2
    rcases he with rfl | rfl <;> exact key
  · exact takeAll_panics a.defers w' w2 h1 h2

section
variable {P : Program} {base : Nat} {ops : Array Oper} {Q : DX → DS → Prop} {s : DS}

theorem CT.of_T {f : FuncId} {fn : Func} {c : Code} {n : Nat} {ls : List LV} {bx : List (Nat × Box)} {R : CO → Prop} (hf : P.funcs[f]? = some fn) (hname : (fn.name == "runtime.NumGoroutine") = false) (hb : fn.body = some c)
    (h : T P n c (ctPost P fn R) ⟨ls ++ List.replicate (fn.ntmps - ls.length) (.one .junk), bx⟩) : CT P f n ls bx R := by
  refine ⟨⟨fn, hf, hname, by rw [hb]; rfl⟩, fun w A M vs hbx hsz hvs => ?_⟩
  refine calls_of_wpMP hf hb ?_
  have hst : St (envOf w A n M bx) M w { tmps := vs ++ Array.replicate (fn.ntmps - vs.size) undef, defers := [] } ⟨ls ++ List.replicate (fn.ntmps - ls.length) (.one .junk), bx⟩ := by
    refine ⟨rfl, by simp [hsz], fun t l hl => ?_, hbx⟩
    rw [List.getElem?_append] at hl
    split at hl
    · rename_i hlt
      obtain ⟨u, hu, hr⟩ := hvs t l hl
      have : (vs ++ Array.replicate (fn.ntmps - vs.size) undef).getD t undef = u := by
        rw [Array.getD_eq_getD_getElem?, Array.getElem?_append_left (by rw [hsz]; exact hlt), hu]; rfl
      rw [this]
      exact hr
    · rw [List.getElem?_replicate] at hl
      split at hl
      · cases hl; trivial
      · cases hl
  refine wp_mono (h _ M w _ rfl hst) ?_
  rintro e a' wE ⟨E1, hext, x, s', M', hx, hq, hstE⟩
  obtain ⟨w2, ht, hst'⟩ := St.atEnd (P := P) hext rfl hbx.foreign hstE
  refine ⟨w2, ht, ?_⟩
  have fin : (∃ ls, dres P s' fn.results.toList = some ls ∧ R (.ret (resLV ls) s'.bx)) → ∃ v, (results fn a'.tmps).run P w2 = .ok v w2 ∧ ∃ M' x, R x ∧ COok (envOf w A n M bx) M' w2 (.returned v) x := by
    rintro ⟨rs, h1, h2⟩
    obtain ⟨vs', h3, h4, h5⟩ := dres_run (P := P) hst' _ rs h1
    exact ⟨_, results_run fn a'.tmps vs' h3, M', _, h2, hst'.boxes, _, rfl, resLV_rel h4 h5⟩
  cases x with
  | normal =>
    cases e <;> simp only [XRel] at hx
    exact .inl ⟨.inl rfl, fin hq⟩
  | ret =>
    cases e <;> simp only [XRel] at hx
    exact .inl ⟨.inr rfl, fin hq⟩
  | exit id => exact hq.elim
  | panic d =>
    cases e <;> simp only [XRel] at hx
    obtain ⟨v, rfl, hr⟩ := hx
    exact .inr ⟨_, rfl, M', .pan d s'.bx, hq.2, hst'.boxes, v, rfl, scalar_rel hr hq.1⟩

def ctρ (hand : List Nat) (nb : Nat) (i : Nat) : Nat := match hand[i]? with | some j => j | none => nb + (i - hand.length)
def ctOk (hand : List Nat) (nb : Nat) (bx' : List (Nat × Box)) (i : Nat) : Bool := Nat.blt i nb && (!(hand.contains i) || bx'.any fun p => Nat.blt p.1 hand.length && ctρ hand nb p.1 == i)
def DS.after (s : DS) (hand : List Nat) (nb : Nat) (bx' : List (Nat × Box)) : DS :=
  ⟨s.sl.map (LV.keep (ctOk hand nb bx')), ((s.bx.filter fun p => !(hand.contains p.1)).map fun p => (p.1, p.2.keep (ctOk hand nb bx'))) ++ bx'.map fun p => (ctρ hand nb p.1, p.2.mapi (ctρ hand nb))⟩

theorem blk_inj {l : List (Nat × Box)} {g : Nat × Box → Option Nat} (hn : (l.filterMap g).Nodup) {p q : Nat × Box} (hp : p ∈ l) (hq : q ∈ l) {k : Nat} (h1 : g p = some k) (h2 : g q = some k) : p = q := by
  induction l with
  | nil => cases hp
  | cons x l ih =>
    rw [List.filterMap_cons] at hn
    have hmem : ∀ y ∈ l, g y = some k → k ∈ l.filterMap g := fun y hy hk => List.mem_filterMap.2 ⟨y, hy, hk⟩
    rcases List.mem_cons.1 hp with rfl | hp' <;> rcases List.mem_cons.1 hq with rfl | hq'
    · rfl
    · rw [h1] at hn; exact absurd (hmem q hq' h2) (List.nodup_cons.1 hn).1
    · rw [h2] at hn; exact absurd (hmem p hp' h1) (List.nodup_cons.1 hn).1
    · refine ih ?_ hp' hq'
      split at hn
      · exact hn
      · exact (List.nodup_cons.1 hn).2

theorem nodup_fm {l : List (Nat × Box)} {g : Nat × Box → Option Nat} (hn : l.Nodup) (h : ∀ p ∈ l, ∀ q ∈ l, ∀ k, g p = some k → g q = some k → p = q) : (l.filterMap g).Nodup := by
  induction l with
  | nil => simp
  | cons x l ih =>
    have hx := List.nodup_cons.1 hn
    have ih' := ih hx.2 fun p hp q hq => h p (List.mem_cons_of_mem _ hp) q (List.mem_cons_of_mem _ hq)
    rw [List.filterMap_cons]
    split
    · exact ih'
    · rename_i k hk
      refine List.nodup_cons.2 ⟨fun hm => ?_, ih'⟩
      obtain ⟨q, hq, hqk⟩ := List.mem_filterMap.1 hm
      have := h x List.mem_cons_self q (List.mem_cons_of_mem _ hq) k hk hqk
      subst this
      exact hx.1 hq

theorem ctρ_lt {hand : List Nat} {nb i : Nat} (hlt : ∀ j ∈ hand, j < nb) : i < hand.length → ctρ hand nb i < nb ∧ hand[i]? = some (ctρ hand nb i) := by
  intro h
  have : hand[i]? = some hand[i] := List.getElem?_eq_getElem h
  simp only [ctρ, this]
  exact ⟨hlt _ (List.getElem_mem h), trivial⟩
theorem ctρ_ge {hand : List Nat} {nb i : Nat} (h : ¬ i < hand.length) : ctρ hand nb i = nb + (i - hand.length) := by
  have : hand[i]? = none := List.getElem?_eq_none (by omega)
  simp only [ctρ, this]
theorem ctρ_inj {hand : List Nat} {nb : Nat} (hn : hand.Nodup) (hlt : ∀ j ∈ hand, j < nb) {i j : Nat} (h : ctρ hand nb i = ctρ hand nb j) : i = j := by
  by_cases hi : i < hand.length <;> by_cases hj : j < hand.length
  · have h1 := (ctρ_lt hlt hi).2
    have h2 := (ctρ_lt hlt hj).2
    rw [h] at h1
    exact (List.getElem?_inj hi hn).1 (h1.trans h2.symm)
  · have h1 := (ctρ_lt hlt hi).1
    rw [h, ctρ_ge hj] at h1; omega
  · have h1 := (ctρ_lt hlt hj).1
    rw [← h, ctρ_ge hi] at h1; omega
  · rw [ctρ_ge hi, ctρ_ge hj] at h; omega

def ctBack (hand : List Nat) (nb : Nat) (i : Nat) : Option Nat := if nb ≤ i then some (i - nb + hand.length) else if hand.contains i then some (hand.idxOf i) else none
def ctMap (hand : List Nat) (nb : Nat) (M M' : BMap) : BMap :=
  ⟨fun i => match ctBack hand nb i with | some j => M'.blk j | none => M.blk i, fun i => match ctBack hand nb i with | some j => M'.rv j | none => M.rv i, fun i => match ctBack hand nb i with | some j => M'.sz j | none => M.sz i⟩
theorem ctBack_ρ {hand : List Nat} {nb : Nat} (hn : hand.Nodup) (hlt : ∀ j ∈ hand, j < nb) (i : Nat) : ctBack hand nb (ctρ hand nb i) = some i := by
  unfold ctBack
  by_cases hi : i < hand.length
  · obtain ⟨h1, h2⟩ := ctρ_lt hlt hi
    rw [if_neg (by omega)]
    have hm := List.mem_of_getElem? h2
    rw [if_pos (by simpa using hm)]
    obtain ⟨h3, h4⟩ := List.getElem?_eq_some_iff.1 h2
    congr 1
    rw [← h4]
    exact List.Nodup.idxOf_getElem hn i h3
  · rw [ctρ_ge hi, if_pos (by omega)]
    congr 1; omega
theorem ctMap_via {hand : List Nat} {nb : Nat} (hn : hand.Nodup) (hlt : ∀ j ∈ hand, j < nb) (M M' : BMap) : (ctMap hand nb M M').via (ctρ hand nb) = M' := by
  cases M'
  simp only [BMap.via, ctMap, ctBack_ρ hn hlt]

set_option maxHeartbeats 1000000 in
theorem St.after {E : Env} {M M' : BMap} {w w' : World} {a : Act} {hand : List Nat} {nb : Nat} {bx bx' : List (Nat × Box)} {A' : Nat → Prop} (hst : St E M w a s) (hn : hand.Nodup) (hlt : ∀ j ∈ hand, j < nb) (hb : E.base ≤ nb) (hsn : ∀ p ∈ s.bx, p.1 < nb)
    (hbn : ∀ p ∈ bx, p.1 < hand.length) (hlook : ∀ p ∈ bx, (ctρ hand nb p.1, p.2.mapi (ctρ hand nb)) ∈ s.bx) (hA' : ∀ b, A' b ↔ Av E.A0 M s.bx b ∧ ¬ ∃ p ∈ bx, boxBlk (M.via (ctρ hand nb)) p = some b)
    (hbx : Boxes (envOf w A' hand.length (M.via (ctρ hand nb)) bx) M' w' bx') (hcover : ∀ p ∈ s.bx, hand.contains p.1 = true → ∃ q ∈ bx, ctρ hand nb q.1 = p.1) :
    St E (ctMap hand nb M M') w' a (s.after hand nb bx') := by
  have hvia := ctMap_via hn hlt M M'
  have hO : ∀ k, (envOf w A' hand.length (M.via (ctρ hand nb)) bx).O k → ∃ p ∈ s.bx, hand.contains p.1 = true ∧ boxBlk M p = some k := by
    rintro k ⟨p, hp, hk⟩
    refine ⟨_, hlook p hp, ?_, by rw [← boxBlk_mapi]; exact hk⟩
    have := (ctρ_lt hlt (hbn p hp)).2
    simpa using List.mem_of_getElem? this
  have hrest : ∀ p ∈ s.bx, hand.contains p.1 = false → ∀ k, boxBlk M p = some k → k < w.heap.size ∧ ¬ (envOf w A' hand.length (M.via (ctρ hand nb)) bx).O k := by
    intro p hp hc k hk
    refine ⟨(hst.boxes.new p hp k hk).2, fun ho => ?_⟩
    obtain ⟨q, hq, hqc, hqk⟩ := hO k ho
    have := blk_inj hst.boxes.blks hp hq hk hqk
    subst this
    rw [hc] at hqc; cases hqc
  have hMrest : ∀ i, i < nb → hand.contains i = false → (ctMap hand nb M M').blk i = M.blk i ∧ (ctMap hand nb M M').rv i = M.rv i ∧ (ctMap hand nb M M').sz i = M.sz i := by
    intro i hi hc
    have : ctBack hand nb i = none := by unfold ctBack; rw [if_neg (by omega), if_neg (by simpa using hc)]
    simp only [ctMap, this, and_self]
  have hMat : ∀ j, (ctMap hand nb M M').blk (ctρ hand nb j) = M'.blk j ∧ (ctMap hand nb M M').rv (ctρ hand nb j) = M'.rv j ∧ (ctMap hand nb M M').sz (ctρ hand nb j) = M'.sz j := by
    intro j
    simp only [ctMap, ctBack_ρ hn hlt, and_self]
  have hok : ∀ i, ctOk hand nb bx' i = true → (ctMap hand nb M M').blk i = M.blk i ∧ (ctMap hand nb M M').rv i = M.rv i ∧ (ctMap hand nb M M').sz i = M.sz i := by
    intro i hi
    simp only [ctOk, Bool.and_eq_true, Bool.or_eq_true, Bool.not_eq_true', List.any_eq_true, beq_iff_eq, Nat.blt_eq] at hi
    obtain ⟨h1, h2 | ⟨p, hp, h3, h4⟩⟩ := hi
    · exact hMrest i h1 h2
    · obtain ⟨_, g1, g2, g3⟩ := hbx.old p hp h3
      rw [← h4]
      obtain ⟨k1, k2, k3⟩ := hMat p.1
      exact ⟨k1.trans g1, k2.trans g2, k3.trans g3⟩
  have hfr := hbx.frame
  have hsize := hfr.size
  have hnew : ∀ p ∈ bx', ∀ k, boxBlk M' p = some k → ((∃ q ∈ s.bx, hand.contains q.1 = true ∧ boxBlk M q = some k) ∨ w.heap.size ≤ k) ∧ k < w'.heap.size := by
    intro p hp k hk
    obtain ⟨h1, h2⟩ := hbx.new p hp k hk
    exact ⟨h1.imp (hO k) id, h2⟩
  have hAvsub : ∀ b, Av E.A0 (ctMap hand nb M M') (s.after hand nb bx').bx b → Av E.A0 M s.bx b ∨ w.heap.size ≤ b := by
    rintro b (hb | ⟨p, hp, hk⟩)
    · exact .inl (.inl hb)
    · simp only [DS.after, List.mem_append, List.mem_map, List.mem_filter, Bool.not_eq_true'] at hp
      rcases hp with ⟨q, ⟨hq, hc⟩, rfl⟩ | ⟨q, hq, rfl⟩
      · obtain ⟨g1, g2, _⟩ := hMrest q.1 (hsn q hq) hc
        rw [boxBlk_keep ⟨g1, g2⟩] at hk
        exact .inl (.inr ⟨q, hq, hk⟩)
      · rw [← boxBlk_mapi, hvia] at hk
        rcases (hnew q hq b hk).1 with ⟨r, hr, _, hrk⟩ | h
        · exact .inl (.inr ⟨r, hr, hrk⟩)
        · exact .inr h
  have hKeeps : Keeps w (Av E.A0 M s.bx) w' (Av E.A0 (ctMap hand nb M M') (s.after hand nb bx').bx) := by
    intro b off u h1 h2
    have hblt := World.block_lt_of_cell? w ⟨b, off, none⟩ h2
    have hnO : ¬ (envOf w A' hand.length (M.via (ctρ hand nb)) bx).O b := fun ho => by
      obtain ⟨q, hq, _, hqk⟩ := hO b ho
      exact h1 (.inr ⟨q, hq, hqk⟩)
    refine ⟨fun h3 => ?_, by rw [World.cell?_of_block (hfr.block b hblt hnO)]; exact h2⟩
    rcases hAvsub b h3 with h4 | h4
    · exact h1 h4
    · exact absurd hblt (Nat.not_lt.2 h4)
  have hAveq : ∀ b, Av E.A0 (ctMap hand nb M M') (s.after hand nb bx').bx b → Av A' M' bx' b := by
    rintro b (hb | ⟨p, hp, hk⟩)
    · refine .inl ((hA' b).2 ⟨.inl hb, fun ho => ?_⟩)
      obtain ⟨q, hq, _, hqk⟩ := hO b ho
      have h1 := hst.boxes.new q hq b hqk
      have h2 := hst.boxes.foreign b hb
      rcases h1.1 with h3 | h3
      · exact h2.2 h3
      · omega
    · simp only [DS.after, List.mem_append, List.mem_map, List.mem_filter, Bool.not_eq_true'] at hp
      rcases hp with ⟨q, ⟨hq, hc⟩, rfl⟩ | ⟨q, hq, rfl⟩
      · obtain ⟨g1, g2, _⟩ := hMrest q.1 (hsn q hq) hc
        rw [boxBlk_keep ⟨g1, g2⟩] at hk
        exact .inl ((hA' b).2 ⟨.inr ⟨q, hq, hk⟩, (hrest q hq hc b hk).2⟩)
      · rw [← boxBlk_mapi, hvia] at hk
        exact .inr ⟨q, hq, hk⟩
  refine ⟨hst.defers, by simp [DS.after, hst.size], fun t l hl => ?_, ?_⟩
  · simp only [DS.after, List.getElem?_map, Option.map_eq_some_iff] at hl
    obtain ⟨l', hl', rfl⟩ := hl
    exact LV.keep_rel hok ((hst.slots t l' hl').mono hKeeps)
  have hndids : (s.bx.map (·.1)).Nodup := hst.boxes.ids
  have idsrest : ((s.bx.filter fun p => !(hand.contains p.1)).map (·.1)).Nodup := hndids.sublist (List.filter_sublist.map _)
  have idsnew : (bx'.map fun p => ctρ hand nb p.1).Nodup := by
    have := hbx.ids
    rw [List.nodup_iff_pairwise_ne, List.pairwise_map] at this ⊢
    exact this.imp fun h e => h (ctρ_inj hn hlt e)
  have hidnew : ∀ p ∈ bx', hand.contains (ctρ hand nb p.1) = true ∨ nb ≤ ctρ hand nb p.1 := by
    intro p hp
    by_cases hi : p.1 < hand.length
    · exact .inl (by simpa using List.mem_of_getElem? (ctρ_lt hlt hi).2)
    · exact .inr (by rw [ctρ_ge hi]; omega)
  have hids : ((s.after hand nb bx').bx.map (·.1)).Nodup := by
    simp only [DS.after, List.map_append, List.map_map]
    rw [List.nodup_append]
    refine ⟨by simpa [Function.comp_def] using idsrest, by simpa [Function.comp_def] using idsnew, fun x hx y hy e => ?_⟩
    simp only [List.mem_map, Function.comp, List.mem_filter, Bool.not_eq_true'] at hx hy
    obtain ⟨p, ⟨hp, hc⟩, rfl⟩ := hx
    obtain ⟨q, hq, rfl⟩ := hy
    rcases hidnew q hq with h | h
    · rw [← e, hc] at h; cases h
    · have := hsn p hp; omega
  exact {
    ok := fun id b hb => by
      simp only [DS.after, List.mem_append, List.mem_map, List.mem_filter, Bool.not_eq_true'] at hb
      rcases hb with ⟨q, ⟨hq, hc⟩, e⟩ | ⟨q, hq, e⟩
      · cases e
        have hi := hsn q hq
        have hoki : ctOk hand nb bx' q.1 = true := by
          simp only [ctOk, Bool.and_eq_true, Bool.or_eq_true, Bool.not_eq_true', Nat.blt_eq]
          exact ⟨hi, .inl hc⟩
        refine BoxOK_keep hok hoki ((hst.boxes.ok q.1 q.2 hq).mono hKeeps fun k hk => ?_)
        obtain ⟨h1, h2⟩ := hrest q hq hc k hk
        exact hfr.block k h1 h2
      · cases e
        have := hbx.ok q.1 q.2 hq
        rw [← hvia] at this
        rw [hvia] at this
        have h2 : BoxOK w' (Av E.A0 (ctMap hand nb M M') (s.after hand nb bx').bx) ((ctMap hand nb M M').via (ctρ hand nb)) q.1 q.2 := by
          rw [hvia]; exact this.mono (Keeps.sub hAveq) (fun _ _ => rfl)
        exact BoxOK_mapi.1 h2
    ids := hids
    blks := by
      refine nodup_fm (nodup_of_map hids) fun p hp q hq k hpk hqk => ?_
      simp only [DS.after, List.mem_append, List.mem_map, List.mem_filter, Bool.not_eq_true'] at hp hq
      rcases hp with ⟨x, ⟨hx, hxc⟩, rfl⟩ | ⟨x, hx, rfl⟩ <;> rcases hq with ⟨y, ⟨hy, hyc⟩, rfl⟩ | ⟨y, hy, rfl⟩
      · obtain ⟨g1, g2, _⟩ := hMrest x.1 (hsn x hx) hxc
        obtain ⟨g3, g4, _⟩ := hMrest y.1 (hsn y hy) hyc
        rw [boxBlk_keep ⟨g1, g2⟩] at hpk
        rw [boxBlk_keep ⟨g3, g4⟩] at hqk
        rw [blk_inj hst.boxes.blks hx hy hpk hqk]
      · obtain ⟨g1, g2, _⟩ := hMrest x.1 (hsn x hx) hxc
        rw [boxBlk_keep ⟨g1, g2⟩] at hpk
        rw [← boxBlk_mapi, hvia] at hqk
        obtain ⟨h1, h2⟩ := hrest x hx hxc k hpk
        rcases (hbx.new y hy k hqk).1 with h3 | h3
        · exact absurd h3 h2
        · exact absurd h1 (Nat.not_lt.2 h3)
      · obtain ⟨g1, g2, _⟩ := hMrest y.1 (hsn y hy) hyc
        rw [boxBlk_keep ⟨g1, g2⟩] at hqk
        rw [← boxBlk_mapi, hvia] at hpk
        obtain ⟨h1, h2⟩ := hrest y hy hyc k hqk
        rcases (hbx.new x hx k hpk).1 with h3 | h3
        · exact absurd h3 h2
        · exact absurd h1 (Nat.not_lt.2 h3)
      · rw [← boxBlk_mapi, hvia] at hpk hqk
        rw [blk_inj hbx.blks hx hy hpk hqk]
    new := fun p hp k hk => by
      simp only [DS.after, List.mem_append, List.mem_map, List.mem_filter, Bool.not_eq_true'] at hp
      rcases hp with ⟨q, ⟨hq, hc⟩, rfl⟩ | ⟨q, hq, rfl⟩
      · obtain ⟨g1, g2, _⟩ := hMrest q.1 (hsn q hq) hc
        rw [boxBlk_keep ⟨g1, g2⟩] at hk
        obtain ⟨h1, h2⟩ := hst.boxes.new q hq k hk
        exact ⟨h1, Nat.lt_of_lt_of_le h2 hsize⟩
      · rw [← boxBlk_mapi, hvia] at hk
        obtain ⟨h1, h2⟩ := hnew q hq k hk
        refine ⟨?_, h2⟩
        rcases h1 with ⟨r, hr, _, hrk⟩ | h1
        · exact (hst.boxes.new r hr k hrk).1
        · exact .inr (Nat.le_trans hst.boxes.frame.size h1)
    foreign := hst.boxes.foreign
    frame := by
      have h2 := hst.boxes.frame
      refine ⟨hfr.os.trans h2.os, hfr.tape.trans h2.tape, hfr.output.trans h2.output, Nat.le_trans h2.size hfr.size, fun k hk hok => ?_⟩
      refine (hfr.block k (Nat.lt_of_lt_of_le hk h2.size) fun hob => ?_).trans (h2.block k hk hok)
      obtain ⟨q, hq, _, hqk⟩ := hO k hob
      rcases (hst.boxes.new q hq k hqk).1 with h3 | h3
      · exact hok h3
      · have : E.w0.heap.size ≤ k := h3
        omega
    old := fun p hp hlt' => by
      simp only [DS.after, List.mem_append, List.mem_map, List.mem_filter, Bool.not_eq_true'] at hp
      rcases hp with ⟨q, ⟨hq, hc⟩, rfl⟩ | ⟨q, hq, rfl⟩
      · obtain ⟨g1, g2, g3⟩ := hMrest q.1 (hsn q hq) hc
        obtain ⟨h1, h2, h3, h4⟩ := hst.boxes.old q hq hlt'
        exact ⟨h1, g1.trans h2, g2.trans h3, g3.trans h4⟩
      · by_cases hi : q.1 < hand.length
        · obtain ⟨hL, g1, g2, g3⟩ := hbx.old q hq hi
          obtain ⟨k1, k2, k3⟩ := hMat q.1
          obtain ⟨r, hr, hre⟩ := List.mem_map.1 hL
          have hm := hlook r hr
          rw [hre] at hm
          obtain ⟨h1, h2, h3, h4⟩ := hst.boxes.old _ hm hlt'
          exact ⟨h1, (k1.trans g1).trans h2, (k2.trans g2).trans h3, (k3.trans g3).trans h4⟩
        · exfalso
          have : ctρ hand nb q.1 = nb + (q.1 - hand.length) := ctρ_ge hi
          have h5 : ctρ hand nb q.1 < E.base := hlt'
          omega }

theorem TL_ct {o : Oper} {rest : List Oper} (f : FuncId) (hand : List Nat) (nb : Nat) (ls : List LV) (bx : List (Nat × Box)) {R : CO → Prop} {fop : Operand} {args : Array Operand} {ts : Array TypeId} (caps : List (Sum Nat D)) (hct : CT P f hand.length ls bx R)
    (ho : o.op = .call { callee := .value fop, args := args, argTypes := ts }) (hg : o.guard = none) (hf : s.ev fop = .one (.fn f caps)) (hargs : args.toList.map s.ev ++ caps.map capLV = ls.map (LV.mapi (ctρ hand nb)))
    (hlook : bx.map (fun p => s.bx.lookup (ctρ hand nb p.1)) = bx.map (fun p => some (p.2.mapi (ctρ hand nb)))) (hdec : (decide hand.Nodup && hand.all (fun j => Nat.blt j nb) && Nat.ble base nb && s.bx.all (fun p => Nat.blt p.1 nb) && bx.all (fun p => Nat.blt p.1 hand.length) && decide (bx.map (·.1)).Nodup && hand.all (fun j => bx.any fun q => ctρ hand nb q.1 == j)) = true)
    (hret : ∀ l bx', R (.ret l bx') → TL P base ops rest Q ((s.after hand nb bx').put o.dst (l.mapi (ctρ hand nb)))) (hpan : ∀ d bx', R (.pan d bx') → Q (.panic d) (s.after hand nb bx')) : TL P base ops (o :: rest) Q s := by
  simp only [Bool.and_eq_true, decide_eq_true_eq, List.all_eq_true, Nat.blt_eq, List.any_eq_true, beq_iff_eq] at hdec
  obtain ⟨⟨⟨⟨⟨⟨hn, hlt⟩, hb⟩, hsn⟩, hbn⟩, hbid⟩, hcov⟩ := hdec
  have hb' : base ≤ nb := Nat.le_of_ble_eq_true hb
  have hlk : ∀ p ∈ bx, (ctρ hand nb p.1, p.2.mapi (ctρ hand nb)) ∈ s.bx := by
    intro p hp
    have := List.map_inj_left.1 hlook p hp
    exact lookup_mem this
  intro E M w a hE hst
  refine wpList_plain hg fun K hK => ?_
  have hslots := ev_rel hst.size hst.slots
  have hfr := hslots fop
  rw [hf] at hfr
  obtain ⟨cv, hfv, hcs, hcv⟩ := hfr
  unfold Oper.wp
  rw [run_call_func ho hfv hct.1, Oper.upon_enter]
  let A' : Nat → Prop := fun b => Av E.A0 M s.bx b ∧ ¬ ∃ p ∈ bx, boxBlk (M.via (ctρ hand nb)) p = some b
  have hAv : ∀ b, Av E.A0 M s.bx b ↔ Av A' (M.via (ctρ hand nb)) bx b := by
    intro b
    constructor
    · intro h
      by_cases ho : ∃ p ∈ bx, boxBlk (M.via (ctρ hand nb)) p = some b
      · exact .inr ho
      · exact .inl ⟨h, ho⟩
    · rintro (h | ⟨p, hp, hk⟩)
      · exact h.1
      · exact .inr ⟨_, hlk p hp, by rw [← boxBlk_mapi]; exact hk⟩
  have hbx : Boxes (envOf w A' hand.length (M.via (ctρ hand nb)) bx) (M.via (ctρ hand nb)) w bx := {
    ok := fun i b hi => BoxOK_mapi.2 ((hst.boxes.ok _ _ (hlk _ hi)).mono (Keeps.sub fun b hb => (hAv b).2 hb) (fun _ _ => rfl))
    ids := hbid
    blks := by
      refine nodup_fm (nodup_of_map hbid) fun p hp q hq k hpk hqk => ?_
      rw [boxBlk_mapi] at hpk hqk
      have h1 := congrArg Prod.fst (blk_inj hst.boxes.blks (hlk p hp) (hlk q hq) hpk hqk)
      have h2 : p.1 = q.1 := ctρ_inj hn hlt h1
      have h3 := lookup_of_mem hbid (i := p.1) (b := p.2) hp
      have h4 := lookup_of_mem hbid (i := q.1) (b := q.2) hq
      rw [h2, h4] at h3
      exact Prod.ext h2 (Option.some.inj h3).symm
    new := fun p hp k hk => ⟨.inl ⟨p, hp, hk⟩, by rw [boxBlk_mapi] at hk; exact (hst.boxes.new _ (hlk p hp) k hk).2⟩
    foreign := fun b hb => ⟨Av_old hst.boxes hb.1, hb.2⟩
    frame := Fr.refl _ _
    old := fun p hp _ => ⟨List.mem_map.2 ⟨p, hp, rfl⟩, rfl, rfl, rfl⟩ }
  have hlen := congrArg List.length hargs
  simp only [List.length_append, List.length_map, Array.length_toList] at hlen
  refine (hct.2 w A' (M.via (ctρ hand nb)) (args.map a.eval ++ cv) hbx (by simp [hcs]; omega) fun j l hj => ?_).mono ?_
  · have hj' : (args.toList.map s.ev ++ caps.map capLV)[j]? = some (l.mapi (ctρ hand nb)) := by rw [hargs, List.getElem?_map, hj]; rfl
    have key : ∃ u, (args.map a.eval ++ cv)[j]? = some u ∧ LV.rel w (Av E.A0 M s.bx) M (l.mapi (ctρ hand nb)) u := by
      rw [List.getElem?_append] at hj'
      rw [Array.getElem?_append]
      simp only [List.length_map, Array.length_toList, Array.size_map] at hj' ⊢
      split at hj'
      · rename_i hlt'
        simp only [List.getElem?_map, Option.map_eq_some_iff, Array.getElem?_toList] at hj'
        obtain ⟨x, hx, he⟩ := hj'
        rw [if_pos hlt']
        exact ⟨a.eval x, by simp [hx], he ▸ hslots x⟩
      · rename_i hge
        rw [if_neg hge]
        simp only [List.getElem?_map, Option.map_eq_some_iff] at hj'
        obtain ⟨cp, hcp, he⟩ := hj'
        obtain ⟨u, hu, hr⟩ := hcv _ cp hcp
        refine ⟨u, hu, he ▸ ?_⟩
        cases cp with
        | inl i => exact hr
        | inr d => exact hr
    obtain ⟨u, hu, hr⟩ := key
    exact ⟨u, hu, LV.mapi_rel.2 (hr.mono (Keeps.sub fun b hb => (hAv b).2 hb))⟩
  · rintro e w' ⟨M', x, hR, hok⟩
    have hcov' : ∀ p ∈ s.bx, hand.contains p.1 = true → ∃ q ∈ bx, ctρ hand nb q.1 = p.1 := fun p _ hc => by
      obtain ⟨q, hq, h⟩ := hcov p.1 (by simpa using hc); exact ⟨q, hq, h⟩
    have hfin : ∀ bx', Boxes (envOf w A' hand.length (M.via (ctρ hand nb)) bx) M' w' bx' → St E (ctMap hand nb M M') w' a (s.after hand nb bx') := fun bx' hB =>
      hst.after hn hlt (by omega) hsn hbn hlk (fun b => Iff.rfl) hB hcov'
    have hvia := ctMap_via hn hlt M M'
    have hAveq : ∀ bx', Boxes (envOf w A' hand.length (M.via (ctρ hand nb)) bx) M' w' bx' → ∀ b, Av E.A0 (ctMap hand nb M M') (s.after hand nb bx').bx b → Av A' M' bx' b := by
      intro bx' hB b hbv
      have hS := hfin bx' hB
      rcases hbv with hbv | ⟨p, hp, hk⟩
      · refine .inl ⟨.inl hbv, fun ⟨q, hq, hqk⟩ => ?_⟩
        rw [boxBlk_mapi] at hqk
        have h1 := hst.boxes.new _ (hlk q hq) b hqk
        have h2 := hst.boxes.foreign b hbv
        rcases h1.1 with h3 | h3
        · exact h2.2 h3
        · have := h2.1; omega
      · simp only [DS.after, List.mem_append, List.mem_map, List.mem_filter, Bool.not_eq_true'] at hp
        rcases hp with ⟨q, ⟨hq, hc⟩, rfl⟩ | ⟨q, hq, rfl⟩
        · have hback : ctBack hand nb q.1 = none := by
            have := hsn q hq
            unfold ctBack; rw [if_neg (by omega), if_neg (by simpa using hc)]
          rw [boxBlk_keep (M := M) ⟨by simp only [ctMap, hback], by simp only [ctMap, hback]⟩] at hk
          refine .inl ⟨.inr ⟨q, hq, hk⟩, fun ⟨r, hr, hrk⟩ => ?_⟩
          rw [boxBlk_mapi] at hrk
          have := blk_inj hst.boxes.blks hq (hlk r hr) hk hrk
          rw [this] at hc
          have h9 := List.mem_of_getElem? (ctρ_lt hlt (hbn r hr)).2
          have h10 : hand.contains (ctρ hand nb r.1) = true := by simpa using h9
          rw [h10] at hc; cases hc
        · rw [← boxBlk_mapi, hvia] at hk
          exact .inr ⟨q, hq, hk⟩
    cases x with
    | ret l bx' =>
      obtain ⟨hB, v, rfl, hr⟩ := hok
      refine hK _ _ (hret l bx' hR E _ w' _ hE ((hfin bx' hB).put o.dst ?_))
      rw [← hvia] at hr
      exact LV.mapi_rel.1 (hr.mono (by rw [hvia]; exact Keeps.sub (hAveq bx' hB)))
    | pan d bx' =>
      obtain ⟨hB, v, rfl, hr⟩ := hok
      exact ⟨E, EnvExt.refl E, .panic d, _, _, ⟨v, rfl, hr.mono (Keeps.sub (hAveq bx' hB))⟩, hpan d bx' hR, hfin bx' hB⟩
end
end Go.DL

namespace Go.DL
open Go.RowKit Go.Maps

section
variable {P : Program} {w : World} {M : BMap} {base : Nat} {Q : DX → DS → Prop} {s : DS}

end
end Go.DL
namespace Go.DL
section
variable {w : World} {A : Nat → Prop} {M : BMap}
end
end Go.DL
namespace Go.DL
end Go.DL

namespace Go.DL
open Go.RowKit Go.Lib

section
variable {P : Program} {w : World} {A : Nat → Prop} {M : BMap} {base : Nat} {Q : DX → DS → Prop} {s : DS}

end
end Go.DL

namespace Go.DL
open Go.RowKit Go.Lib

section
variable {P : Program} {w : World} {A : Nat → Prop} {M : BMap} {base : Nat} {Q : DX → DS → Prop} {s : DS}

end
end Go.DL

namespace Go.DL
open Go.RowKit

def iterO {σ ρ : Type} (step : σ → Option (σ ⊕ ρ)) : Nat → σ → Option ρ
  | 0, _ => none
  | n + 1, x => match step x with
    | some (.inl y) => iterO step n y
    | some (.inr r) => some r
    | none => none

theorem iterO_more {σ ρ : Type} {step : σ → Option (σ ⊕ ρ)} {r : ρ} : ∀ {n m : Nat} {x : σ}, n ≤ m → iterO step n x = some r → iterO step m x = some r
  | 0, _, _, _, h => by cases h
  | n + 1, 0, _, hle, _ => by omega
  | n + 1, m + 1, x, hle, h => by
    unfold iterO at h ⊢
    split at h
    · exact iterO_more (by omega) h
    · exact h
    · cases h

theorem iterO_eq {σ ρ : Type} {step : σ → Option (σ ⊕ ρ)} {r r' : ρ} {n m : Nat} {x : σ} (h : iterO step n x = some r) (h' : iterO step m x = some r') : r = r' := by
  rcases Nat.le_total n m with hl | hl
  · rw [iterO_more hl h] at h'; exact Option.some.inj h'
  · rw [iterO_more hl h'] at h; exact (Option.some.inj h).symm

open Classical in
noncomputable def loopO {σ ρ : Type} (step : σ → Option (σ ⊕ ρ)) (x : σ) : Option ρ :=
  if h : ∃ r n, iterO step n x = some r then some h.choose else none

theorem loopO_of {σ ρ : Type} {step : σ → Option (σ ⊕ ρ)} {x : σ} {r : ρ} (n : Nat) (h : iterO step n x = some r) : loopO step x = some r := by
  unfold loopO
  have hex : ∃ r n, iterO step n x = some r := ⟨r, n, h⟩
  rw [dif_pos hex]
  obtain ⟨m, hm⟩ := hex.choose_spec
  rw [iterO_eq hm h]

theorem loopO_iter {σ ρ : Type} {step : σ → Option (σ ⊕ ρ)} {x : σ} {r : ρ} (h : loopO step x = some r) : ∃ n, iterO step n x = some r := by
  unfold loopO at h
  split at h
  · rename_i hex
    cases h
    exact hex.choose_spec
  · cases h

theorem loopO_eq {σ ρ : Type} (step : σ → Option (σ ⊕ ρ)) (x : σ) : loopO step x = match step x with
    | some (.inl y) => loopO step y
    | some (.inr r) => some r
    | none => none := by
  split
  · rename_i y hy
    cases h : loopO step y with
    | none =>
      cases h2 : loopO step x with
      | none => rfl
      | some r =>
        obtain ⟨n, hn⟩ := loopO_iter h2
        cases n with
        | zero => cases hn
        | succ n =>
          rw [iterO, hy] at hn
          rw [loopO_of n hn] at h; cases h
    | some r =>
      obtain ⟨n, hn⟩ := loopO_iter h
      exact loopO_of (n + 1) (by rw [iterO, hy]; exact hn)
  · rename_i r hr
    exact loopO_of 1 (by rw [iterO, hr])
  · rename_i hn
    cases h2 : loopO step x with
    | none => rfl
    | some r =>
      obtain ⟨n, hn'⟩ := loopO_iter h2
      cases n with
      | zero => cases hn'
      | succ n => rw [iterO, hn] at hn'; cases hn'

theorem loopO_inl {σ ρ : Type} {step : σ → Option (σ ⊕ ρ)} {x y : σ} (h : step x = some (.inl y)) : loopO step x = loopO step y := by rw [loopO_eq, h]
theorem loopO_inr {σ ρ : Type} {step : σ → Option (σ ⊕ ρ)} {x : σ} {r : ρ} (h : step x = some (.inr r)) : loopO step x = some r := by rw [loopO_eq, h]

def gt {α ρ : Type} (l : List α) (i : Int) (k : α → Option ρ) : Option ρ :=
  if 0 ≤ i then match l[i.toNat]? with | some x => k x | none => none else none
def gn {α ρ : Type} (l : List α) (n : Nat) (k : α → Option ρ) : Option ρ :=
  match l[n]? with | some x => k x | none => none
def ck {ρ : Type} (p : Prop) [Decidable p] (k : Option ρ) : Option ρ := if p then k else none
def ckI {ρ : Type} (n : Int) (k : Option ρ) : Option ρ := if -9223372036854775808 ≤ n ∧ n ≤ 9223372036854775807 then k else none
def bd {α ρ : Type} (o : Option α) (k : α → Option ρ) : Option ρ := match o with | some x => k x | none => none
def up {σ ρ : Type} (o : Option ρ) : Option (σ ⊕ ρ) := match o with | some x => some (.inr x) | none => none

section
variable {α ρ σ : Type} {r : ρ}
theorem gt_inv (enc : α → D) {l : List α} {i : Int} {k : α → Option ρ} (h : gt l i k = some r) :
    ∃ x, (0 ≤ i ∧ (l.map enc)[i.toNat]? = some (enc x)) ∧ (0 ≤ i ∧ i < (((l.map enc).length : Nat) : Int)) ∧ (l.map enc)[i.toNat]? = some (enc x) ∧ k x = some r := by
  unfold gt at h
  split at h
  · rename_i h0
    split at h
    · rename_i x hx
      have h1 : (l.map enc)[i.toNat]? = some (enc x) := by rw [List.getElem?_map, hx]; rfl
      have h2 := (List.getElem?_eq_some_iff.1 h1).1
      exact ⟨x, ⟨h0, h1⟩, ⟨h0, by omega⟩, h1, h⟩
    · cases h
  · cases h
theorem gn_inv (enc : α → D) {l : List α} {n : Nat} {k : α → Option ρ} (h : gn l n k = some r) :
    ∃ x, (0 ≤ ((n : Nat) : Int) ∧ (l.map enc)[((n : Nat) : Int).toNat]? = some (enc x)) ∧ (0 ≤ ((n : Nat) : Int) ∧ ((n : Nat) : Int) < (((l.map enc).length : Nat) : Int)) ∧ (l.map enc)[n]? = some (enc x) ∧ k x = some r := by
  unfold gn at h
  split at h
  · rename_i x hx
    have h1 : (l.map enc)[n]? = some (enc x) := by rw [List.getElem?_map, hx]; rfl
    have h2 := (List.getElem?_eq_some_iff.1 h1).1
    exact ⟨x, ⟨by omega, h1⟩, ⟨by omega, by omega⟩, h1, h⟩
  · cases h
theorem ck_inv {p : Prop} [Decidable p] {k : Option ρ} (h : ck p k = some r) : p ∧ k = some r := by
  unfold ck at h
  split at h
  · exact ⟨by assumption, h⟩
  · cases h
theorem ckI_inv {n : Int} {k : Option ρ} (h : ckI n k = some r) : IntKind.i64.wrap n = n ∧ k = some r := by
  unfold ckI at h
  split at h
  · rename_i hn; exact ⟨i64_wrap hn.1 hn.2, h⟩
  · cases h
theorem ckI_in {n : Int} {k : Option ρ} (h : ckI n k = some r) : (-9223372036854775808 ≤ n ∧ n ≤ 9223372036854775807) ∧ k = some r := by
  unfold ckI at h
  split at h
  · rename_i hn; exact ⟨hn, h⟩
  · cases h
theorem bd_inv {o : Option α} {k : α → Option ρ} (h : bd o k = some r) : ∃ x, o = some x ∧ k x = some r := by
  unfold bd at h
  split at h
  · exact ⟨_, rfl, h⟩
  · cases h
theorem up_inv {o : Option ρ} {z : σ ⊕ ρ} (h : up o = some z) (hz : ∀ r', z = .inr r' → r' = r) : o = some r := by
  unfold up at h
  split at h
  · cases h; rw [hz _ rfl]
  · cases h
theorem ite_t {b : Bool} {x y : Option ρ} (hb : b = true) (h : (if b = true then x else y) = some r) : x = some r := by rwa [if_pos hb] at h
theorem ite_f {b : Bool} {x y : Option ρ} (hb : b = false) (h : (if b = true then x else y) = some r) : y = some r := by rwa [if_neg (by rw [hb]; simp)] at h
theorem gt_some {l : List α} {i : Int} {k : α → Option ρ} {x : α} (h : l[i.toNat]? = some x) (h0 : 0 ≤ i) : gt l i k = k x := by simp [gt, h, h0]
theorem gn_some {l : List α} {n : Nat} {k : α → Option ρ} {x : α} (h : l[n]? = some x) : gn l n k = k x := by simp [gn, h]
theorem ck_pos {p : Prop} [Decidable p] {k : Option ρ} (h : p) : ck p k = k := if_pos h
theorem ckI_pos {n : Int} {k : Option ρ} (h1 : -9223372036854775808 ≤ n) (h2 : n ≤ 9223372036854775807) : ckI n k = k := if_pos ⟨h1, h2⟩
@[simp] theorem bd_some {x : α} {k : α → Option ρ} : bd (some x) k = k x := rfl
@[simp] theorem bd_none {k : α → Option ρ} : bd none k = none := rfl
@[simp] theorem up_some {x : ρ} : (up (some x) : Option (σ ⊕ ρ)) = some (.inr x) := rfl
@[simp] theorem up_none : (up (none : Option ρ) : Option (σ ⊕ ρ)) = none := rfl
end

def DS.LeB (base : Nat) (s s' : DS) : Prop := ∀ (E : Env) (M : BMap) (w : World) (a : Act), E.base = base → St E M w a s → ∃ M', St E M' w a s'
theorem DS.Le.toB {base : Nat} {s s' : DS} (h : s.Le s') : s.LeB base s' := fun E M w a _ hs => h E M w a hs
theorem DS.LeB.refl (base : Nat) (s : DS) : s.LeB base s := fun _ M _ _ _ h => ⟨M, h⟩
theorem DS.LeB.trans {base : Nat} {a b c : DS} (h : a.LeB base b) (h' : b.LeB base c) : a.LeB base c := fun E M w x hb hs => let ⟨M', h1⟩ := h E M w x hb hs; h' E M' w x hb h1

section
variable {P : Program} {base : Nat} {Q : DX → DS → Prop} {s s' : DS}
theorem T_leB {c : Code} (hle : s.LeB base s') (h : T P base c Q s') : T P base c Q s :=
  fun E M w a hb hs => let ⟨M', hs'⟩ := hle E M w a hb hs; h E M' w a hb hs'
theorem TL_leB {ops : Array Oper} {l : List Oper} (hle : s.LeB base s') (h : TL P base ops l Q s') : TL P base ops l Q s :=
  fun E M w a hb hs => let ⟨M', hs'⟩ := hle E M w a hb hs; h E M' w a hb hs'

theorem leB_ownSlot (t id : Nat) (e : TypeId) (sz : Nat) (h : s.ownSlot t id e sz = some s') (hb : Nat.ble base id = true) : s.LeB base s' := by
  intro E M w a hE hst
  unfold DS.ownSlot at h
  split at h
  · rename_i hs
    simp only [Option.some.injEq] at h
    subst h
    have h1 := hst.pushNil id e sz (by rw [hE]; exact Nat.le_of_ble_eq_true hb)
    refine ⟨_, h1.defers, by rw [h1.size]; simp [DS.push], fun t' l hl => ?_, h1.boxes⟩
    simp only [List.getElem?_set] at hl
    split at hl
    · rename_i he
      subst he
      split at hl
      · cases hl
        have h2 := h1.slots t _ hs
        simp only [LV.rel, C.rel] at h2 ⊢
        rw [nil_rel h2]
        simp [BMap.upd]
      · cases hl
    · exact h1.slots t' l hl
  · cases h

theorem leB_ownCell (i off id : Nat) (e : TypeId) (sz : Nat) (h : s.ownCell i off id e sz = some s') (hb : Nat.ble base id = true) : s.LeB base s' := by
  intro E M w a hE hst
  unfold DS.ownCell at h
  split at h
  · rename_i cs hl
    split at h
    · rename_i hc
      simp only [Option.some.injEq] at h
      subst h
      have h1 := hst.pushNil id e sz (by rw [hE]; exact Nat.le_of_ble_eq_true hb)
      have hm := lookup_mem hl
      refine ⟨_, (h1.setBox (b := .var (cs.set off (.own id))) hm rfl ⟨rfl, rfl, rfl, Nat.le_refl _, fun _ _ _ => rfl⟩ fun A' hA' => ?_)⟩
      obtain ⟨arr, T, hg, hcr⟩ := h1.boxes.ok i _ hm
      refine ⟨arr, T, hg, by rw [hcr.1, List.length_set], fun j c hj => ?_⟩
      rw [List.getElem?_set] at hj
      split at hj
      · rename_i he
        subst he
        split at hj
        · cases hj
          obtain ⟨u, hu, hr⟩ := hcr.2 off _ hc
          simp only [C.rel] at hr
          exact ⟨u, hu, by rw [nil_rel hr]; simp [C.rel, BMap.upd]⟩
        · cases hj
      · obtain ⟨u, hu, hr⟩ := hcr.2 j c hj
        exact ⟨u, hu, hr.mono hA'⟩
    · cases h
  · cases h

def DS.unnilC (i off sz : Nat) (s : DS) : Option DS :=
  match s.bx.lookup i with
  | some (.var cs) => some (s.setBox i (.var (cs.modify off (C.unnil sz))))
  | _ => none
theorem le_unnilC (i off sz : Nat) (h : s.unnilC i off sz = some s') : s.Le s' := by
  intro E M w a hst
  unfold DS.unnilC at h
  split at h
  · rename_i cs hl
    simp only [Option.some.injEq] at h
    subst h
    have hm := lookup_mem hl
    refine ⟨_, (hst.setBox (b := .var (cs.modify off (C.unnil sz))) hm rfl ⟨rfl, rfl, rfl, Nat.le_refl _, fun _ _ _ => rfl⟩ fun A' hA' => ?_)⟩
    obtain ⟨arr, T, hg, hcr⟩ := hst.boxes.ok i _ hm
    refine ⟨arr, T, hg, by rw [hcr.1, List.length_modify], fun j c hj => ?_⟩
    rw [List.getElem?_modify] at hj
    simp only [Option.map_eq_map, Option.map_eq_some_iff] at hj
    obtain ⟨c', hc', rfl⟩ := hj
    obtain ⟨u, hu, hr⟩ := hcr.2 j c' hc'
    refine ⟨u, hu, ?_⟩
    split
    · exact C.unnil_rel (hr.mono hA')
    · exact hr.mono hA'
  · cases h

def DS.asPart (t : Nat) (s : DS) : Option DS :=
  match s.sl[t]? with
  | some (.one (.own id)) => match s.bx.lookup id with
    | some (.row _ _ es) => some { s with sl := s.sl.set t (.one (.part id 0 es.length)) }
    | _ => none
  | _ => none
theorem le_asPart (t : Nat) (h : s.asPart t = some s') : s.Le s' := by
  intro E M w a hst
  unfold DS.asPart at h
  split at h
  · rename_i id hs
    split at h
    · rename_i e sz es hl
      simp only [Option.some.injEq] at h
      subst h
      refine ⟨M, hst.defers, by rw [hst.size]; simp, fun t' l hl' => ?_, hst.boxes⟩
      simp only [List.getElem?_set] at hl'
      split at hl'
      · rename_i he
        subst he
        split at hl'
        · cases hl'
          have h2 := hst.slots t _ hs
          obtain ⟨xs, ho, _, hM, _, hblk⟩ := hst.boxes.ok id _ (lookup_mem hl)
          simp only [LV.rel, C.rel] at h2
          rcases ho.2 with ⟨hrv, h0⟩ | ⟨g, cap, cur, hrv, _, hg, hnc, _⟩
          · exact ⟨none, 0, by rw [h2, hrv, h0], by omega, .inr h0⟩
          · have hgb : g = M.blk id := hblk g (by rw [hrv]; rfl)
            subst hgb
            exact ⟨_, cap, by rw [h2, hrv], hnc, .inl (by simp)⟩
        · cases hl'
      · exact hst.slots t' l hl'
    · cases h
  · cases h

inductive Co where
  | asPart (t : Nat)
  | ownS (t id : Nat) (e : TypeId) (sz : Nat)
  | ownC (i off id : Nat) (e : TypeId) (sz : Nat)
  | ren (i j : Nat)
  | nilS (t j sz : Nat)
  | nilC (i off sz : Nat)
  | ice (i : Nat)

def Co.run (base : Nat) : Co → DS → Option DS
  | .ownS t id e sz, s => match Nat.ble base id with | true => s.ownSlot t id e sz | false => none
  | .ownC i off id e sz, s => match Nat.ble base id with | true => s.ownCell i off id e sz | false => none
  | .ren i j, s => match i == j, Nat.ble base j with | false, true => some (s.ren i j) | _, _ => none
  | .nilS t j sz, s => some (s.unnil t j sz)
  | .nilC i off sz, s => s.unnilC i off sz
  | .ice i, s => some (s.freeze i)
  | .asPart t, s => s.asPart t

theorem Co.le {co : Co} (h : co.run base s = some s') : s.LeB base s' := by
  cases co with
  | ownS t id e sz =>
    simp only [Co.run] at h
    split at h
    · exact leB_ownSlot t id e sz h (by assumption)
    · cases h
  | ownC i off id e sz =>
    simp only [Co.run] at h
    split at h
    · exact leB_ownCell i off id e sz h (by assumption)
    · cases h
  | ren i j =>
    simp only [Co.run] at h
    split at h
    · rename_i h1 h2
      cases h
      exact DS.le_ren s i j h1 h2
    · cases h
  | nilS t j sz => simp only [Co.run, Option.some.injEq] at h; subst h; exact (DS.le_unnil s t j sz).toB
  | nilC i off sz => exact (le_unnilC i off sz h).toB
  | ice i => simp only [Co.run, Option.some.injEq] at h; subst h; exact (DS.le_freeze s i).toB
  | asPart t => exact (le_asPart t h).toB

def coAll (base : Nat) : List Co → DS → Option DS
  | [], s => some s
  | c :: cs, s => match c.run base s with | some s1 => coAll base cs s1 | none => none

theorem coAll_le : ∀ {cs : List Co} {s s' : DS}, coAll base cs s = some s' → s.LeB base s'
  | [], s, s', h => by cases h; exact DS.LeB.refl _ _
  | c :: cs, s, s', h => by
    unfold coAll at h
    split at h
    · rename_i s1 h1; exact (Co.le h1).trans (coAll_le h)
    · cases h

def arrive (base : Nat) (cs : List Co) (live dead ids : List Nat) (s : DS) : Option DS :=
  match coAll base cs s with
  | some s1 => match decide ids.Nodup && ((s1.prune live dead).bx.all fun p => ids.contains p.1) with
    | true => some ((s1.prune live dead).order ids)
    | false => none
  | none => none

theorem arr (cs : List Co) (live dead ids : List Nat) (h : arrive base cs live dead ids s = some s') : s.LeB base s' := by
  unfold arrive at h
  split at h
  · rename_i s1 h1
    split at h
    · rename_i h2
      cases h
      rw [Bool.and_eq_true] at h2
      exact (coAll_le h1).trans (QE_turn (Q := fun _ _ => True) live dead ids rfl h2.1 h2.2 : s1.Le _).toB
    · cases h
  · cases h

theorem T_arr {c : Code} (cs : List Co) (live dead ids : List Nat) (s' : DS) (h : arrive base cs live dead ids s = some s') (hq : T P base c Q s') : T P base c Q s := T_leB (arr cs live dead ids h) hq
theorem T_seqJ {α : Type} {x y : Code} (st : α → DS) (G : α → Prop) (hy : ∀ v, G v → T P base y Q (st v)) (hx : T P base x (DX.andThen (fun s' => ∃ v, G v ∧ s'.LeB base (st v)) Q) s) : T P base (.seq x y) Q s :=
  T_seq (T_mono (fun dx s' h => by
    cases dx with
    | normal => obtain ⟨v, hv, hle⟩ := h; exact T_leB hle (hy v hv)
    | _ => exact h) hx)

theorem wpList_mono {ops : Array Oper} {R R' : Exit → Act → World → Prop} (h : ∀ e a w, R e a w → R' e a w) : ∀ (l : List Oper) (a : Act) (w : World), wpList P ops R l a w → wpList P ops R' l a w
  | [], _, _, hh => h _ _ _ hh
  | o :: l, a, w, hh => by
    unfold wpList at hh ⊢
    split
    · rename_i hw
      rw [if_pos hw] at hh
      exact hh.imp (Oper.wp_mono2 (fun a w => wpList_mono h l a w) fun e a w _ => h e a w) (fun ⟨hx, x, a', y⟩ => ⟨hx, x, a', h _ _ _ y⟩)
    · rename_i hw
      rw [if_neg hw] at hh
      exact wpList_mono h l _ _ hh

theorem TL_consJ {α : Type} {ops : Array Oper} {o : Oper} {rest : List Oper} (st : α → DS) (G : α → Prop) (hy : ∀ v, G v → TL P base ops rest Q (st v)) (hx : TL P base ops [o] (DX.andThen (fun s' => ∃ v, G v ∧ s'.LeB base (st v)) Q) s) : TL P base ops (o :: rest) Q s := by
  intro E M w a hE hst
  have h1 := hx E M w a hE hst
  have key : ∀ a w, Lift E (DX.andThen (fun s' => ∃ v, G v ∧ s'.LeB base (st v)) Q) .normal a w → wpList P ops (Lift E Q) rest a w := by
    rintro a w ⟨E', hext, x, s', M', hx, hq, hst'⟩
    cases x <;> simp only [XRel] at hx
    obtain ⟨v, hv, hle⟩ := hq
    obtain ⟨M'', h2⟩ := hle E' M' w a (hext.base.trans hE) hst'
    exact wpList_mono (fun _ _ _ => Lift.ext hext) _ _ _ (hy v hv E' M'' w a (hext.base.trans hE) h2)
  unfold wpList at h1 ⊢
  split
  · rename_i hw
    rw [if_pos hw] at h1
    rcases h1 with h1 | h1
    · refine .inl (Oper.wp_mono2 key ?_ h1)
      rintro e a w hne ⟨E', hext, x, s', M', hx, hq, hst'⟩
      refine ⟨E', hext, x, s', M', hx, ?_, hst'⟩
      cases x with
      | normal => cases e <;> simp_all [XRel]
      | _ => exact hq
    · exact absurd h1.2 no_out
  · rename_i hw
    rw [if_neg hw] at h1
    exact key _ _ h1

theorem T_loopO {c : Code} {σ ρ : Type} (st : σ → DS) (step : σ → Option (σ ⊕ ρ)) (x0 : σ) {r : ρ} (h0 : loopO step x0 = some r)
    (h : ∀ x z, (∀ r', z = .inr r' → r' = r) → step x = some z → T P base c (DX.andThen (fun s' => ∃ y, some (Sum.inl y) = some z ∧ s'.LeB base (st y)) Q) (st x)) : T P base (.loop c) Q (st x0) := by
  obtain ⟨n0, hn0⟩ := loopO_iter h0
  intro E M w a hb hs b k cs
  have key : ∀ n x, iterO step n x = some r → ∀ E1, EnvExt E E1 → ∀ M w a, St E1 M w a (st x) →
      ∃ e a' w', Lift E Q e a' w' ∧ Arrives P (lone (b.at a (.code c :: .inLoop c :: k)) cs w) b k cs e a' w' := by
    intro n
    induction n with
    | zero => intro x hx; cases hx
    | succ n ih =>
      intro x hx E1 hext M w a hst
      rw [iterO] at hx
      obtain ⟨z, hz, hz1⟩ : ∃ z, step x = some z ∧ ∀ y, z = .inl y → iterO step n y = some r := by
        split at hx
        · rename_i y hy; exact ⟨_, hy, fun y' e => by cases e; exact hx⟩
        · rename_i r' hr'; exact ⟨_, hr', fun y' e => by cases e⟩
        · cases hx
      have hz2 : ∀ r', z = .inr r' → r' = r := fun r' e => by
        subst e; rw [hz] at hx; exact Option.some.inj hx
      obtain ⟨e, a1, w1, hq, harr⟩ := h x z hz2 hz E1 M w a (hext.base.trans hb) hst b (.inLoop c :: k) cs
      obtain ⟨E2, hext2, dx, s', M', hx', hq, hst'⟩ := hq
      have hx12 := hext.trans hext2
      cases dx with
      | normal =>
        cases e <;> simp only [XRel] at hx'
        obtain ⟨y, hy, hle⟩ := hq
        obtain ⟨M'', hst''⟩ := hle E2 M' w1 a1 (hx12.base.trans hb) hst'
        obtain ⟨e2, a2, w2, hq2, harr2⟩ := ih y (hz1 y (Option.some.inj hy).symm) E2 hx12 M'' w1 a1 hst''
        exact ⟨e2, a2, w2, hq2, .of_steps (Steps.trans harr (.one step_inLoop)) harr2⟩
      | exit id =>
        cases e <;> simp only [XRel] at hx'
        subst hx'
        exact ⟨.exit _, a1, w1, ⟨E2, hx12, .exit _, s', M', rfl, hq, hst'⟩, .pass (x := .inLoop c) rfl (fun _ _ => .inl (by simp)) harr⟩
      | ret =>
        cases e <;> simp only [XRel] at hx'
        exact ⟨.ret, a1, w1, ⟨E2, hx12, .ret, s', M', trivial, hq, hst'⟩, .pass (x := .inLoop c) rfl (fun _ _ => .inl (by simp)) harr⟩
      | panic d =>
        cases e <;> simp only [XRel] at hx'
        exact ⟨.panic _, a1, w1, ⟨E2, hx12, .panic d, s', M', hx', hq, hst'⟩, .pass (x := .inLoop c) rfl (fun _ _ => .inl (by simp)) harr⟩
  obtain ⟨e, a', w', hq, harr⟩ := key n0 x0 hn0 E (EnvExt.refl E) M w a hs
  exact ⟨e, a', w', hq, .of_steps (.one step_loop) harr⟩
end

abbrev zn : Hint := {}
theorem zt : True := trivial
theorem zc {p q : Prop} (hp : p) (hq : q) : p ∧ q := ⟨hp, hq⟩
theorem some_inv {α : Type} {a b : α} (h : some a = some b) : a = b := Option.some.inj h
theorem gd_tt {b : Bool} (h : b = true) : (b == true) = true := by rw [h]; rfl
theorem gd_tf {b : Bool} (h : b = true) : (b == false) = false := by rw [h]; rfl
theorem gd_ft {b : Bool} (h : b = false) : (b == true) = false := by rw [h]; rfl
theorem gd_ff {b : Bool} (h : b = false) : (b == false) = true := by rw [h]; rfl
def elB (b : UInt8) : D := .int .u8 ((b.toNat : Nat) : Int)
theorem elB_one (l : List UInt8) : cellsOne (l.map elB) := by
  intro d hd c hc; obtain ⟨x, _, rfl⟩ := List.mem_map.1 hd; simp [elB, D.cells] at hc; subst hc; rfl
def elStr (b : List UInt8) : D := .str b
theorem elStr_one (l : List (List UInt8)) : cellsOne (l.map elStr) := by
  intro d hd c hc; obtain ⟨x, _, rfl⟩ := List.mem_map.1 hd; simp [elStr, D.cells] at hc; subst hc; rfl
theorem len_s {α : Type} (enc : α → D) (l : List α) : True ∧ D.int .i64 (((l.map enc).length : Nat) : Int) = D.int .i64 ((l.length : Nat) : Int) := ⟨trivial, by rw [List.length_map]⟩
theorem app_s {α : Type} (enc : α → D) (h1 : ∀ l : List α, cellsOne (l.map enc)) (old new : List α) {b : Nat} (h : (old.length + new.length) * b ≤ 140737488355328) :
    ((old.map enc).length + (new.map enc).length) * b ≤ 140737488355328 ∧ cellsOne (new.map enc) ∧ old.map enc ++ new.map enc = (old ++ new).map enc := ⟨by simpa using h, h1 _, by simp⟩
def sb {α ρ : Type} (l : List α) (lo hi : Option Int) (k : List α → Option ρ) : Option ρ :=
  if 0 ≤ lo.getD 0 ∧ lo.getD 0 ≤ hi.getD l.length ∧ hi.getD l.length ≤ (l.length : Int) then k (subList l lo hi) else none
theorem sub_side {n : Nat} {lo hi : Option Int} (h : 0 ≤ lo.getD 0 ∧ lo.getD 0 ≤ hi.getD n ∧ hi.getD n ≤ (n : Int)) : subSide n lo hi none := by
  unfold subSide
  cases lo <;> cases hi <;> simp at h ⊢ <;> omega
theorem subList_map {α β : Type} (f : α → β) (l : List α) (lo hi : Option Int) : subList (l.map f) lo hi = (subList l lo hi).map f := by
  unfold subList
  cases lo <;> cases hi <;> simp [List.map_take, List.map_drop]
theorem sb_inv {α ρ : Type} {r : ρ} (sz : Nat) (enc : α → D) {l : List α} {lo hi : Option Int} {k : List α → Option ρ} (h : sb l lo hi k = some r) :
    ∃ y, (subSide (l.map enc).length lo hi none ∧ D.sl sz (subList (l.map enc) lo hi) = D.sl sz (y.map enc)) ∧ k y = some r := by
  unfold sb at h
  split at h
  · rename_i h0
    exact ⟨_, ⟨by rw [List.length_map]; exact sub_side h0, by rw [subList_map]⟩, h⟩
  · cases h
theorem sbs_inv {ρ : Type} {r : ρ} {l : List UInt8} {lo hi : Option Int} {k : List UInt8 → Option ρ} (h : sb l lo hi k = some r) :
    ∃ y, (subSide l.length lo hi none ∧ D.str (subList l lo hi) = D.str y) ∧ k y = some r := by
  unfold sb at h
  split at h
  · rename_i h0; exact ⟨_, ⟨sub_side h0, rfl⟩, h⟩
  · cases h
end Go.DL

namespace Go.DL
open Go.RowKit

structure AH where
  h : Hint := {}
  co : List Co := []

def lastOn {α : Type} (m key : Nat) : List (Nat × Nat × α) → Option α → Option α
  | [], acc => acc
  | (i, k, v) :: l, acc => match k == key, m.testBit i with
    | true, true => lastOn m key l (some v)
    | _, _ => lastOn m key l acc

def slM (m : Nat) (vals : List (Nat × Nat × LV)) : Nat → List LV → List LV
  | _, [] => []
  | t, l :: ls => ((lastOn m t vals none).getD l) :: slM m vals (t + 1) ls

def stM (s0 : DS) (vals : List (Nat × Nat × LV)) (bxs : List (Nat × Nat × Option Box)) (ids : List Nat) (m : Nat) : DS :=
  ⟨slM m vals 0 s0.sl, ids.filterMap fun id => match lastOn m id bxs none with
    | some (some b) => some (id, b)
    | some none => none
    | none => (s0.bx.lookup id).map fun b => (id, b)⟩

def anyEnd (ids : List Nat) (s : DS) : Option DS :=
  match s.bx.all fun p => ids.contains p.1 with
  | true => some (s.order ids)
  | false => none

def anyEdge (P : Program) (base : Nat) (ops : Array Oper) (hs : List AH) (st : Nat → DS) (ids : List Nat) (e : Nat × Nat) : Option (Prop × DS) :=
  match ops[e.2]?, coAll base (hs.getD e.2 {}).co (st e.1) with
  | some o, some s1 => match wantB ops o s1 (hs.getD e.2 {}).h.g with
    | none => none
    | some (p, false) => (anyEnd ids (s1.put o.dst UD)).map fun s' => (p, s')
    | some (p, true) => match dstep P base o s1 (hs.getD e.2 {}).h.d with
      | some (r, s2) => (anyEnd ids s2).map fun s' => (p ∧ r, s')
      | none => none
  | _, _ => none

def AllP : List Prop → Prop
  | [] => True
  | p :: l => p ∧ AllP l
theorem AllP.get : ∀ {l : List Prop}, AllP l → ∀ i, l.getD i True
  | [], _, i => by simp
  | p :: l, h, 0 => h.1
  | p :: l, h, i + 1 => by simpa using AllP.get h.2 i

section
variable {P : Program} {base : Nat} {ops : Array Oper} {Q : DX → DS → Prop} {s : DS}

theorem anyEnd_le {ids : List Nat} (hn : ids.Nodup) {s' : DS} (h : anyEnd ids s = some s') : s.Le s' := by
  unfold anyEnd at h
  split at h
  · rename_i ha
    cases h
    refine DS.le_order s ids hn fun p hp => ?_
    have := List.all_eq_true.1 ha p hp
    simpa using this
  · cases h

theorem anyEdge_sound {hs : List AH} {st : Nat → DS} {ids : List Nat} {m i : Nat} {side : Prop} {s' : DS} (hn : ids.Nodup) (h : anyEdge P base ops hs st ids (m, i) = some (side, s')) (hside : side) :
    ∃ o, ops[i]? = some o ∧ TL P base ops [o] (QE Q s') (st m) := by
  unfold anyEdge at h
  split at h
  · rename_i o s1 ho hco
    dsimp only at ho hco
    refine ⟨o, ho, TL_leB (coAll_le hco) ?_⟩
    split at h
    · cases h
    · rename_i p hw
      simp only [Option.map_eq_some_iff, Prod.mk.injEq] at h
      obtain ⟨s2, h1, h2, rfl⟩ := h
      rw [← h2] at hside
      refine dexec_sound [o] [(hs.getD i {}).h] s1 (s1.put o.dst UD) (p ∧ True) ?_ ⟨hside, trivial⟩ (anyEnd_le hn h1)
      simp only [dexec, List.headD_cons, hw]
    · rename_i p hw
      split at h
      · rename_i r s2 hd
        simp only [Option.map_eq_some_iff, Prod.mk.injEq] at h
        obtain ⟨s3, h1, h2, rfl⟩ := h
        rw [← h2] at hside
        refine dexec_sound [o] [(hs.getD i {}).h] s1 s2 (p ∧ r ∧ True) ?_ ⟨hside.1, hside.2, trivial⟩ (anyEnd_le hn h1)
        simp only [dexec, List.headD_cons, hw, hd]
      · cases h
  · cases h

theorem TL_guard {o : Oper} {rest : List Oper} {p : Prop} (h : wantB ops o s true = some (p, true)) (hp : p) (hq : TL P base ops ({ o with guard := none } :: rest) Q s) : TL P base ops (o :: rest) Q s := by
  intro E M w a hE hst
  have h1 := hq E M w a hE hst
  unfold wpList at h1 ⊢
  have hw := wantB_sound h hp hst
  have hw2 : Region.wanted { o with guard := none } (yielded ops a.tmps) = true := by unfold Region.wanted; rfl
  rw [if_pos hw]
  rw [if_pos hw2] at h1
  exact h1
end
end Go.DL

namespace Go.DL
section
variable {P : Program} {base : Nat} {Q : DX → DS → Prop} {s : DS}
def wayJ (P : Program) (base : Nat) (l : List Oper) (hs : List Hint) (cs : List Co) (live dead ids : List Nat) (s : DS) : Option (Prop × DS) :=
  match dexec P base l.toArray l hs s with
  | some (p, s1) => (arrive base cs live dead ids s1).map fun s2 => (p, s2)
  | none => none
theorem T_regJ {id : Nat} {l : List Oper} (hs : List Hint) (cs : List Co) (live dead ids : List Nat) (sv : DS) (side : Prop) (h : wayJ P base l hs cs live dead ids s = some (side, sv)) (hside : side)
    (hq : ∀ s', s'.LeB base sv → Q .normal s') : T P base (.region id l.toArray false) Q s := by
  unfold wayJ at h
  split at h
  · rename_i p s1 h1
    simp only [Option.map_eq_some_iff, Prod.mk.injEq] at h
    obtain ⟨s2, h2, h3, rfl⟩ := h
    exact T_region hs s1 p h1 (by rw [h3]; exact hside) (hq s1 (arr _ _ _ _ h2))
  · cases h
def wayJD (P : Program) (base : Nat) (l : List Oper) (n : Nat) (hs : List Hint) (cs : List Co) (live dead ids : List Nat) (s : DS) : Option (Prop × DS) :=
  match dexecDraw P base l n hs s with
  | some (p, s1) => (arrive base cs live dead ids s1).map fun s2 => (p, s2)
  | none => none
theorem T_regJD {id : Nat} {l : List Oper} (n : Nat) (hs : List Hint) (cs : List Co) (live dead ids : List Nat) (sv : DS) (side : Prop) (hm : P.follows .mixedOrders = true) (hok : drawOk l.toArray n = true) (h : wayJD P base l n hs cs live dead ids s = some (side, sv)) (hside : side)
    (hq : ∀ s', s'.LeB base sv → Q .normal s') : T P base (.region id l.toArray true) Q s := by
  unfold wayJD at h
  split at h
  · rename_i p s1 h1
    simp only [Option.map_eq_some_iff, Prod.mk.injEq] at h
    obtain ⟨s2, h2, h3, rfl⟩ := h
    exact T_draw n hs s1 p hm hok h1 (by rw [h3]; exact hside) (hq s1 (arr _ _ _ _ h2))
  · cases h
end
theorem zs {p : Prop} {l : List Prop} (h : p) (hl : AllP l) : AllP (p :: l) := ⟨h, hl⟩
theorem zS : AllP [] := trivial
abbrev zg : Hint := { g := false }
abbrev zd (d : D) : Hint := { d := some d }
def hl (n : Nat) (l : List (Nat × Hint)) : List Hint := (List.range n).map fun i => (l.lookup i).getD {}
abbrev di (n : Int) : LV := .one (.dat (.int .i64 n))
abbrev db (b : Bool) : LV := .one (.dat (.bool b))
abbrev rf (i o : Nat) : LV := .one (.ref i o)
abbrev ow (i : Nat) : LV := .one (.own i)
section
variable {q : Prop}
theorem z1 (h : q) : True ∧ q := ⟨trivial, h⟩
theorem z2 (h : q) : True ∧ True ∧ q := z1 (z1 h)
theorem z3 (h : q) : True ∧ True ∧ True ∧ q := z1 (z2 h)
theorem z4 (h : q) : True ∧ True ∧ True ∧ True ∧ q := z1 (z3 h)
theorem z5 (h : q) : True ∧ True ∧ True ∧ True ∧ True ∧ q := z1 (z4 h)
theorem z6 (h : q) : True ∧ True ∧ True ∧ True ∧ True ∧ True ∧ q := z1 (z5 h)
theorem z7 (h : q) : True ∧ True ∧ True ∧ True ∧ True ∧ True ∧ True ∧ q := z1 (z6 h)
theorem z8 (h : q) : True ∧ True ∧ True ∧ True ∧ True ∧ True ∧ True ∧ True ∧ q := z1 (z7 h)
end
end Go.DL

namespace Go.DL
section
variable {α ρ : Type} {r : ρ}
end
end Go.DL

namespace Go.DL
open Go.RowKit
inductive Tr where
  | e : Tr
  | n : Tr → Nat → Tr → Tr
theorem and_sub {a m : Nat} : (a &&& m = a) ↔ ∀ j, a.testBit j = true → m.testBit j = true := by
  constructor
  · intro h j hj
    rw [← h, Nat.testBit_and, Bool.and_eq_true] at hj
    exact hj.2
  · intro h
    apply Nat.eq_of_testBit_eq
    intro j
    rw [Nat.testBit_and]
    cases hj : a.testBit j
    · rfl
    · rw [h j hj]; rfl
section
variable {P : Program} {base : Nat} {ops : Array Oper} {Q : DX → DS → Prop} {s : DS}
end
end Go.DL

namespace Go.DL
open Go.RowKit Go.Maps
section
variable {α β : Type}
end
section
variable {P : Program} {w : World} {A : Nat → Prop} {M : BMap} {base : Nat} {Q : DX → DS → Prop} {s : DS} {α : Type} {q : α → D}
end
end Go.DL

namespace Go.DL
open Go.RowKit Go.Maps
section
variable {σ ρ : Type}
def rangeO (step : Int → σ → Option (σ ⊕ ρ)) (fin : σ → Option ρ) : List Int → σ → Option ρ
  | [], x => fin x
  | k :: ks, x => match step k x with
    | some (.inl y) => rangeO step fin ks y
    | some (.inr r) => some r
    | none => none
def RngI (step : Int → σ → Option (σ ⊕ ρ)) (fin : σ → Option ρ) (r : ρ) (p : List Int × σ) : Prop := p.1.Nodup ∧ ∀ ks, ks.Perm p.1 → rangeO step fin ks p.2 = some r
theorem RngI.nil {step : Int → σ → Option (σ ⊕ ρ)} {fin : σ → Option ρ} {r : ρ} {x : σ} {R : List Int} (h : RngI step fin r (R, x)) (hR : R = []) : fin x = some r := by
  subst hR; exact h.2 [] (List.Perm.refl _)
theorem RngI.more {step : Int → σ → Option (σ ⊕ ρ)} {fin : σ → Option ρ} {r : ρ} {x : σ} {R : List Int} (h : RngI step fin r (R, x)) {k : Int} (hk : k ∈ R) :
    (∃ z, step k x = some z ∧ (∀ r', z = .inr r' → r' = r) ∧ ∀ y, z = .inl y → RngI step fin r (R.filter fun y => !(y == k), y)) ∧ (R.filter fun y => !(y == k)).length < R.length := by
  have hp : (k :: R.filter fun y => !(y == k)).Perm R := by
    have e : (R.filter fun y => !(y == k)) = R.erase k := by rw [h.1.erase_eq_filter]; rfl
    rw [e]; exact (List.perm_cons_erase hk).symm
  have hl := hp.length_eq
  refine ⟨?_, by rw [List.length_cons] at hl; omega⟩
  have h1 := h.2 _ hp
  rw [rangeO] at h1
  split at h1
  · rename_i y hy
    refine ⟨_, hy, (fun r' e => by cases e), fun y' e => ?_⟩
    cases e
    refine ⟨h.1.filter _, fun ks hks => ?_⟩
    have h2 := h.2 (k :: ks) ((hks.cons k).trans hp)
    rw [rangeO, hy] at h2
    exact h2
  · rename_i r' hr
    refine ⟨_, hr, (fun r'' e => ?_), fun y' e => by cases e⟩
    cases e
    exact Option.some.inj h1
  · cases h1
end
section
variable {P : Program} {w : World} {A : Nat → Prop} {M : BMap} {base : Nat} {Q : DX → DS → Prop} {s : DS}
end
end Go.DL

namespace Go.DL
open Go.RowKit Go.Lib
def u8s (bs : List UInt8) : List Value := bs.map fun b => Value.int .u8 (b.toNat : Int)
theorem u8s_length (bs : List UInt8) : (u8s bs).length = bs.length := by simp [u8s]
theorem u8s_one (bs : List UInt8) : ∀ u ∈ u8s bs, u.oneCell' = true := by
  intro u hu; obtain ⟨b, _, rfl⟩ := List.mem_map.1 hu; rfl
theorem u8s_append (a b : List UInt8) : u8s (a ++ b) = u8s a ++ u8s b := by simp [u8s]
def rowM (e : TypeId) (bs : List UInt8) : Nat → Value → Obj → Prop := fun b v o =>
  ∃ cap cur fz, v = .slice (some ⟨b, 0, none⟩) bs.length cap ∧ o = .cells cur e fz ∧ (fz = (0, 0) ∨ cur.size ≤ fz.1) ∧ bs.length ≤ cap ∧ cap ≤ maxLen ∧ cur.size = cap ∧ cur.toList.take bs.length = u8s bs

theorem storeCells_M (P : Program) (g o : Nat) (t : TypeId) (fz : Nat × Nat) : ∀ (vs : List Value) (i : Nat) (cur : Array Value) (w : World), w.heap[g]? = some (.cells cur t fz) → (fz = (0, 0) ∨ cur.size ≤ fz.1) → o + i + vs.length ≤ cur.size → (∀ v ∈ vs, v.oneCell' = true) →
    (storeCells ⟨g, o, none⟩ vs i).run P w = .ok () (w.setRow g (cur.toList.take (o + i) ++ vs ++ cur.toList.drop (o + i + vs.length)).toArray)
  | [], i, cur, w, hg, _, _, _ => by
    simp only [storeCells, List.append_nil, List.length_nil, Nat.add_zero, List.take_append_drop, Array.toArray_toList]
    rw [setRow_self w g cur t fz hg]
    rfl
  | v :: rest, i, cur, w, hg, hfz, hl, h1 => by
    have hi : o + i < cur.size := by simp at hl; omega
    have hcell : w.cell? ((⟨g, o, none⟩ : Addr).add i) = some cur[o + i] := by rw [Addr.add_mid, cell_of_row w g _ cur t fz hg]; simp [hi]
    have hfro : w.frozen? ((⟨g, o, none⟩ : Addr).add i) = false := by
      obtain ⟨lo, hi'⟩ := fz
      rw [Addr.add_mid]
      simp only [World.frozen?, hg, Bool.and_eq_false_iff, decide_eq_false_iff_not]
      simp only [Prod.mk.injEq] at hfz
      omega
    have hst : (store ((⟨g, o, none⟩ : Addr).add i) v).run P w = .ok () (w.setRow g (cur.setIfInBounds (o + i) v)) := by
      rw [run_store P w _ v _ (h1 v (by simp)), hcell]
      rw [Addr.add_mid] at hfro ⊢
      simp [hfro, setCell_eq_setRow w g (o + i) cur t fz v hg]
    have ih := storeCells_M P g o t fz rest (i + 1) (cur.setIfInBounds (o + i) v) (w.setRow g (cur.setIfInBounds (o + i) v)) (setRow_heap w g cur _ t _ hg) (by simpa using hfz) (by simp at hl ⊢; omega) (fun x hx => h1 x (by simp [hx]))
    simp only [storeCells, Sem.run_bind, hst, Result.andThen_ok, ih, setRow_setRow]
    congr 3
    have e := list_seg_step cur.toList (o + i) v rest (by simp at hl ⊢; omega)
    simpa [Array.toList_setIfInBounds, Nat.add_assoc] using e

section
variable {P : Program} {w : World}
def srcM (P : Program) (w : World) (t t' : TypeId) (y : Value) (ns : List UInt8) : Prop :=
  (t' = t ∧ ((y = .slice none 0 0 ∧ ns = []) ∨ ∃ a c, y = .slice (some a) ns.length c ∧ ∀ j u, (u8s ns)[j]? = some u → w.cell? (a.add j) = some u)) ∨
  (P.underlying t' = some .string ∧ y = .string ⟨ns.toArray⟩)
theorem strCells_u8s (ns : List UInt8) : strCells ⟨ns.toArray⟩ = u8s ns := by simp [strCells, u8s]

theorem append_M {t t' ty e : TypeId} {i : TypeInfo} (ht : P.underlying t = some (.slice e)) (hi : P.info? e = some i) (hz : i.zero = some (.int .u8 0)) (hs1 : i.size = 1) (hb1 : i.bytes = 1)
    {g : Nat} {v y : Value} {o : Obj} {bs ns : List UInt8} (hg : w.heap[g]? = some o) (hM : rowM e bs g v o) (hy : srcM P w t t' y ns) (hbytes : bs.length + ns.length ≤ 140737488355328) :
    ∃ v' w' g' o', (Builtin.append_ #[t, t'] ty #[v, y]).run P w = .ok v' w' ∧ w'.heap[g']? = some o' ∧ rowM e (bs ++ ns) g' v' o' ∧ w.grownBy w' (some g) ∧ (g' = g ∨ w.heap.size ≤ g') := by
  obtain ⟨cap, cur, fz, rfl, rfl, hfz, hle, hcm, hcs, htake⟩ := hM
  have h63 : bs.length + ns.length ≤ maxLen := by simp only [maxLen]; omega
  have hfro0 : (⟨ns.toArray⟩ : ByteArray).size = ns.length := by simp [ByteArray.size]
  by_cases hroom : bs.length + ns.length ≤ cap
  · have hst := storeCells_M P g bs.length e fz (u8s ns) 0 cur w hg hfz (by rw [u8s_length]; omega) (u8s_one ns)
    simp only [Nat.add_zero, u8s_length] at hst
    have hnew : rowM e (bs ++ ns) g (.slice (some ⟨g, 0, none⟩) (bs.length + ns.length) cap) (.cells (cur.toList.take bs.length ++ u8s ns ++ cur.toList.drop (bs.length + ns.length)).toArray e fz) := by
      refine ⟨cap, _, fz, by simp, rfl, ?_, by simpa using hroom, hcm, ?_, ?_⟩
      · rcases hfz with h | h
        · exact .inl h
        · refine .inr (Nat.le_trans (Nat.le_of_eq ?_) h)
          simp only [List.size_toArray, List.length_append, List.length_take, List.length_drop, Array.length_toList, u8s_length]
          omega
      · simp only [List.size_toArray, List.length_append, List.length_take, List.length_drop, Array.length_toList, u8s_length]
        omega
      · rw [htake, ← u8s_append, ← u8s_length]
        exact List.take_left
    have hw : w.grownBy (w.setRow g (cur.toList.take bs.length ++ u8s ns ++ cur.toList.drop (bs.length + ns.length)).toArray) (some g) :=
      ⟨rfl, rfl, rfl, by simp, fun k _ hk => setRow_other w g k _ (fun e => hk (by simp [e]))⟩
    rcases hy with ⟨rfl, ⟨rfl, rfl⟩ | ⟨a, c, rfl, hc⟩⟩ | ⟨hstr, rfl⟩
    · refine ⟨.slice (some ⟨g, 0, none⟩) bs.length cap, w, g, .cells cur e fz, ?_, hg, by rw [List.append_nil]; exact ⟨cap, cur, fz, rfl, rfl, hfz, hle, hcm, hcs, htake⟩, ⟨rfl, rfl, rfl, Nat.le_refl _, fun _ _ _ => rfl⟩, .inl rfl⟩
      have hroom' : bs.length ≤ cap := hle
      simp [Builtin.append_, run_underlying ht, sizeOf, typeInfo, hi, Builtin.lenOf, Builtin.firstCells, loadCells, loadCellsFrom, hroom', storeCells, Addr.add_lit]
    · have hf := run_firstCells_some (P := P) w i.size ns.length a ns.length c (u8s ns) (by rw [u8s_length, hs1, Nat.mul_one]) hc
      refine ⟨_, _, g, _, ?_, setRow_heap w g cur _ e fz hg, hnew, hw, .inl rfl⟩
      rw [hs1] at hf
      simp [Builtin.append_, run_underlying ht, sizeOf, typeInfo, hi, hs1, Builtin.lenOf, hroom, hf, Addr.add_lit, hst]
    · have hf := run_firstCells_string (P := P) w 1 ⟨ns.toArray⟩
      rw [strCells_u8s, hfro0] at hf
      refine ⟨_, _, g, _, ?_, setRow_heap w g cur _ e fz hg, hnew, hw, .inl rfl⟩
      simp [Builtin.append_, run_underlying ht, run_underlying hstr, sizeOf, typeInfo, hi, hs1, Builtin.lenOf, hfro0, hroom, hf, Addr.add_lit, hst]
  · have holds : ∀ j u, (u8s bs)[j]? = some u → w.cell? ((⟨g, 0, none⟩ : Addr).add j) = some u := by
      intro j u hj
      have hjl : j < bs.length := by have := (List.getElem?_eq_some_iff.1 hj).1; rwa [u8s_length] at this
      rw [Addr.add_mid, cell_of_row w g _ cur e fz hg]
      rw [← htake, List.getElem?_take, if_pos hjl] at hj
      simpa using hj
    have hcmx : grownCap w (bs.length + ns.length) cap e ≤ maxLen := grownCap_le_maxLen w (bs.length + ns.length) cap e h63
    have hge := grownCap_ge w (bs.length + ns.length) cap e
    have hnew : rowM e (bs ++ ns) w.heap.size (.slice (some ⟨w.heap.size, 0, none⟩) (bs.length + ns.length) (grownCap w (bs.length + ns.length) cap e))
        (.cells ((u8s bs).toArray ++ (u8s ns).toArray ++ Builtin.zeroCells (Value.int .u8 0).cells (grownCap w (bs.length + ns.length) cap e - (bs.length + ns.length))) e) := by
      refine ⟨_, _, (0, 0), by simp, rfl, .inl rfl, by simpa using hge, hcmx, ?_, ?_⟩
      · have hz1 : (Value.int IntKind.u8 0).cells.size = 1 := rfl
        simp only [Array.size_append, List.size_toArray, size_zeroCells, hz1, u8s_length]
        omega
      · simp only [Array.toList_append, List.append_assoc]
        rw [← List.append_assoc, ← u8s_append, ← u8s_length]
        exact List.take_left
    have hw : ∀ ob, w.grownBy (w.drew.alloc ob) (some g) := fun ob => ⟨rfl, rfl, rfl, by simp, fun k hk _ => _root_.Go.heap_alloc_old w.drew _ (by simpa using hk)⟩
    rcases hy with ⟨rfl, ⟨rfl, rfl⟩ | ⟨a, c, rfl, hc⟩⟩ | ⟨hstr, rfl⟩
    · simp at hroom; omega
    · have hr := run_append_grow (P := P) w t' ty e i (.int .u8 0) ht hi hz ⟨g, 0, none⟩ bs.length cap (u8s bs) (by rw [u8s_length, hs1, Nat.mul_one]) holds a ns.length c (u8s ns) (by rw [u8s_length, hs1, Nat.mul_one]) hc (by omega) (by omega) (growslice_fits (by omega) (by rw [hb1]; omega))
      exact ⟨_, _, w.heap.size, _, hr, heap_alloc_new w.drew _, hnew, hw _, .inr (Nat.le_refl _)⟩
    · have hr := run_append_grow_string (P := P) w t t' ty e i (.int .u8 0) ht hstr hi hz ⟨g, 0, none⟩ bs.length cap (u8s bs) (by rw [u8s_length, hs1, Nat.mul_one]) holds ⟨ns.toArray⟩ (by rw [hfro0]; omega) (by rw [hfro0]; omega) (by rw [hb1, hfro0]; exact growslice_fits (by omega) (by omega))
      rw [hfro0, strCells_u8s] at hr
      exact ⟨_, _, w.heap.size, _, hr, heap_alloc_new w.drew _, hnew, hw _, .inr (Nat.le_refl _)⟩
end

def DS.frzM (id : Nat) (bs : List UInt8) (s : DS) : DS := { sl := s.sl.map (LV.freeze id (some (.sl 1 (bs.map elB))) none), bx := (s.bx.filter fun p => !(p.1 == id)).map fun p => (p.1, p.2.freeze id (some (.sl 1 (bs.map elB))) none) }
theorem flat_elB (bs : List UInt8) : flat (bs.map elB) = bs.map elB := by
  induction bs with
  | nil => rfl
  | cons b l ih => simp [flat, elB, D.cells] at ih ⊢; exact ih
theorem rowM_rel {w : World} {A : Nat → Prop} {e : TypeId} {bs : List UInt8} {b : Nat} {v : Value} {o : Obj} (hA : ¬ A b) (ho : w.heap[b]? = some o) (h : rowM e bs b v o) : RelD w A (.sl 1 (bs.map elB)) v := by
  obtain ⟨cap, cur, fz, rfl, rfl, hfz, hle, hcm, hcs, htake⟩ := h
  cases hbs : bs with
  | nil => exact .sl0 1 (some ⟨b, 0, none⟩) cap (fun h => by cases h)
  | cons x l =>
    rw [← hbs]
    have hrel : ∀ (j : Nat) (c : D), (flat (bs.map elB))[j]? = some c → ∃ u : Value, cur[j]? = some u ∧ RelD w A c u := by
      intro j c hj
      rw [flat_elB, List.getElem?_map, Option.map_eq_some_iff] at hj
      obtain ⟨y, hy, rfl⟩ := hj
      have hjl := (List.getElem?_eq_some_iff.1 hy).1
      have h1 : (u8s bs)[j]? = some (.int .u8 (y.toNat : Int)) := by rw [u8s, List.getElem?_map, hy]; rfl
      rw [← htake, List.getElem?_take, if_pos hjl] at h1
      exact ⟨_, by simpa using h1, .int _ _⟩
    have := RelD.sl (w := w) (A := A) 1 (bs.map elB) b 0 cap (fun j => cur.getD j undef) (by simpa using hle) (by intro d hd; obtain ⟨y, _, rfl⟩ := List.mem_map.1 hd; rfl)
      (fun j c hj => ⟨hA, by obtain ⟨u, hu, _⟩ := hrel j c hj; rw [cell_of_row w b _ cur e fz ho]; simp [hu]⟩)
      (fun j c hj => by obtain ⟨u, hu, hr⟩ := hrel j c hj; simpa [hu] using hr)
    simpa using this
section
variable {P : Program} {w : World} {A : Nat → Prop} {M : BMap} {base : Nat} {Q : DX → DS → Prop} {s : DS}
theorem DS.le_frzM (s : DS) (id : Nat) {e : TypeId} {bs : List UInt8} (hl : s.bx.lookup id = some (.obj (rowM e bs))) : s.Le (s.frzM id bs) := by
  intro E M w a h
  have hm := lookup_mem hl
  refine ⟨M, ?_⟩
  generalize hb' : Box.obj (rowM e bs) = b at hm
  let bx' := (s.bx.filter fun p => !(p.1 == id)).map fun p => (p.1, p.2.freeze id (some (.sl 1 (bs.map elB))) none)
  have hmem : ∀ p ∈ bx', p.1 ≠ id ∧ ∃ b', (p.1, b') ∈ s.bx ∧ p.2 = b'.freeze id (some (.sl 1 (bs.map elB))) none := by
    intro p hp
    simp only [bx', List.mem_map, List.mem_filter] at hp
    obtain ⟨q, ⟨hq, hne⟩, rfl⟩ := hp
    exact ⟨by simpa using hne, q.2, hq, rfl⟩
  have hblk : ∀ p ∈ bx', ∀ k, boxBlk M p = some k → ∃ q ∈ s.bx, boxBlk M q = some k ∧ q.1 = p.1 := by
    intro p hp k hk
    obtain ⟨hne, b', hb', he⟩ := hmem p hp
    obtain ⟨i, bb⟩ := p
    simp only at he
    subst he
    rw [boxBlk_freeze] at hk
    exact ⟨_, hb', hk, rfl⟩
  have hsub : ∀ k, Av E.A0 M bx' k → Av E.A0 M s.bx k ∧ boxBlk M (id, b) ≠ some k := by
    rintro k (hk | ⟨p, hp, hk⟩)
    · refine ⟨.inl hk, fun hb => ?_⟩
      have h1 := (h.boxes.new _ hm k hb).1
      have h2 := h.boxes.foreign k hk
      rcases h1 with h1 | h1
      · exact h2.2 h1
      · have := h2.1; omega
    · obtain ⟨q, hq, hqk, hqi⟩ := hblk p hp k hk
      refine ⟨.inr ⟨q, hq, hqk⟩, fun hb => ?_⟩
      have := blks_inj h.boxes.blks q hq _ hm k hqk hb
      rw [this] at hqi
      exact (hmem p hp).1 hqi.symm
  have hk : Keeps w (Av E.A0 M s.bx) w (Av E.A0 M bx') := Keeps.sub fun k hk => (hsub k hk).1
  have h1 : ∀ d, some (D.sl 1 (bs.map elB)) = some d → RelD w (Av E.A0 M bx') d (M.rv id) := by
    intro d hd
    cases hd
    have hok := h.boxes.ok id _ hm
    subst hb'
    obtain ⟨o, g1, _, g3⟩ := hok
    exact rowM_rel (fun hb => (hsub _ hb).2 rfl) g1 g3
  have h2 : ∀ ds, (none : Option (List D)) = some ds → ∀ o, RelD w (Av E.A0 M bx') (.ptr (ds.drop o)) (.pointer (some ⟨M.blk id, o, none⟩)) := by
    intro ds hds; cases hds
  refine ⟨h.defers, by simp [DS.frzM, h.size], fun t l hl' => ?_, ?_⟩
  · simp only [DS.frzM, List.getElem?_map, Option.map_eq_some_iff] at hl'
    obtain ⟨l', hl2, rfl⟩ := hl'
    exact LV.freeze_rel h1 h2 ((h.slots t l' hl2).mono hk)
  · refine {
      ok := fun i b' hb => ?_
      ids := ?_
      blks := ?_
      new := fun p hp k hpk => ?_
      foreign := h.boxes.foreign
      frame := h.boxes.frame
      old := fun p hp hlt => ?_ }
    · obtain ⟨hne, b0, hb0, he⟩ := hmem _ hb
      simp only at he
      subst he
      have hok := (h.boxes.ok i b0 hb0).mono hk (fun _ _ => rfl)
      cases b0 with
      | var cs =>
        obtain ⟨arr, T, g1, g2⟩ := hok
        exact ⟨arr, T, g1, cells_freeze h1 h2 g2⟩
      | row e sz es => exact hok
      | map Q k e m => exact hok
      | obj p => exact hok
      | mapl Q k l => exact hok
      | nest e es c =>
        obtain ⟨xs, v, g1, g2, g3, g4, g5, g6⟩ := hok
        exact ⟨xs, v, g1, g2, g3, g4, C.freeze_rel h1 h2 g5, g6⟩
    · have : bx'.map (·.1) = (s.bx.filter fun p => !(p.1 == id)).map (·.1) := by simp [bx', List.map_map]
      show (bx'.map (·.1)).Nodup
      rw [this]
      exact (h.boxes.ids.sublist ((List.filter_sublist).map _))
    · have : bx'.filterMap (boxBlk M) = (s.bx.filter fun p => !(p.1 == id)).filterMap (boxBlk M) := by
        simp only [bx', List.filterMap_map]
        refine filterMap_congr' fun p _ => ?_
        show boxBlk M (p.1, p.2.freeze id (some (.sl 1 (bs.map elB))) none) = boxBlk M p
        rw [boxBlk_freeze]
      show (bx'.filterMap (boxBlk M)).Nodup
      rw [this]
      exact h.boxes.blks.sublist ((List.filter_sublist).filterMap _)
    · obtain ⟨q, hq, hqk, _⟩ := hblk p hp k hpk
      exact h.boxes.new q hq k hqk
    · obtain ⟨hne, b0, hb0, he⟩ := hmem p hp
      exact h.boxes.old (p.1, b0) hb0 hlt
theorem T_frzM {c : Code} (id : Nat) {e : TypeId} {bs : List UInt8} (s' : DS) (hl : s.bx.lookup id = some (.obj (rowM e bs))) (hs : s.frzM id bs = s') (h : T P base c Q s') : T P base c Q s := by
  subst hs
  intro E M w a hE hst
  obtain ⟨M', hst'⟩ := s.le_frzM id hl E M w a hst
  exact h E M' w a hE hst'
theorem TL_frzM {ops : Array Oper} {l : List Oper} (id : Nat) {e : TypeId} {bs : List UInt8} (s' : DS) (hl : s.bx.lookup id = some (.obj (rowM e bs))) (hs : s.frzM id bs = s') (h : TL P base ops l Q s') : TL P base ops l Q s := by
  subst hs
  intro E M w a hE hst
  obtain ⟨M', hst'⟩ := s.le_frzM id hl E M w a hst
  exact h E M' w a hE hst'

theorem St.pushObj {E : Env} {a : Act} (h : St E M w a s) {oid : Option Nat} {id : Nat} (hbase : E.base ≤ id) {w' : World} {row : Option Nat} {p : Nat → Value → Obj → Prop} {g : Nat} {v' : Value} {o' : Obj}
    (ho : (oid = none ∧ row = none) ∨ ∃ i b, oid = some i ∧ (i, b) ∈ s.bx ∧ boxBlk M (i, b) = row)
    (hg : w.grownBy w' row) (hblk : row = some g ∨ w.heap.size ≤ g) (ho' : w'.heap[g]? = some o') (hbo : boxy o' = true) (hp : p g v' o') :
    ∃ M', St E M' w' a (((dropOpt oid s).drop id).push id (.obj p)) ∧ M'.rv id = v' := by
  obtain ⟨M1, h1, hav1, hold1⟩ : ∃ M1, StA E M1 w a (dropOpt oid s) (Av E.A0 M s.bx) ∧ (∀ b, Av E.A0 M1 (dropOpt oid s).bx b → Av E.A0 M s.bx b) ∧
      (∀ k, row = some k → (E.O k ∨ E.w0.heap.size ≤ k) ∧ Av E.A0 M s.bx k ∧ ∀ p ∈ (dropOpt oid s).bx, boxBlk M1 p ≠ some k) := by
    rcases ho with ⟨rfl, hn⟩ | ⟨i, b, rfl, hm, hb⟩
    · exact ⟨M, h.toA, fun _ h => h, fun k hk => by rw [hn] at hk; cases hk⟩
    · refine ⟨M.upd i 0 undef 0, h.toA.drop i 0 undef 0, fun _ hb => Av_drop hb, fun k hk => ?_⟩
      rw [← hb] at hk
      refine ⟨(h.boxes.new _ hm k hk).1, .inr ⟨_, hm, hk⟩, fun p hp hpk => ?_⟩
      obtain ⟨hne, b', hm', he⟩ := mem_drop hp
      obtain ⟨pi, pb⟩ := p
      simp only at he hne hm'
      subst he
      rw [boxBlk_upd hne, boxBlk_scrub] at hpk
      have := blks_inj h.boxes.blks _ hm' _ hm k hpk hk
      cases this
      exact hne rfl
  have h2 := h1.drop id g v' 0
  refine ⟨M1.upd id g v' 0, StA.push (row := row) h2 drop_free hbase hg (fun k hk => ?_) (fun b hb => hav1 b (Av_drop hb)) (fun k hk => ?_) (fun A' hA' => ?_), by simp [BMap.upd]⟩
  · obtain ⟨g1, g2, g3⟩ := hold1 k hk
    refine ⟨g1, g2, fun p hp hpk => ?_⟩
    obtain ⟨hne, b', hm', he⟩ := mem_drop hp
    obtain ⟨pi, pb⟩ := p
    simp only at he hne hm'
    subst he
    rw [boxBlk_upd hne, boxBlk_scrub] at hpk
    exact g3 _ hm' hpk
  · have hk' : g = k := by simpa [boxBlk, BMap.upd] using hk
    subst hk'
    exact ⟨hblk, (Array.getElem?_eq_some_iff.1 ho').1⟩
  · exact ⟨o', by simpa [BMap.upd] using ho', hbo, by simpa [BMap.upd] using hp⟩

theorem rowM_boxy {e : TypeId} {bs : List UInt8} {b : Nat} {v : Value} {o : Obj} (h : rowM e bs b v o) : boxy o = true := by
  obtain ⟨cap, cur, fz, _, rfl, _⟩ := h; rfl

theorem TL_bytes {ops : Array Oper} {o : Oper} {rest : List Oper} (src dst e d id : Nat) (bs : List UInt8) {x : Operand} (hop : o.op = .convert src dst x) (hd : o.dst = some d) (hg : o.guard = none)
    (hs : P.underlying src = some .string) (hdst : P.underlying dst = some (.slice e)) (he : P.underlying e = some (.int .u8)) (hx : s.ev x = .one (.dat (.str bs))) (hlen : bs.length ≤ 140737488355328) (hb : Nat.ble base id = true)
    (h : TL P base ops rest Q (((s.drop id).push id (.obj (rowM e bs))).put (some d) (.one (.own id)))) : TL P base ops (o :: rest) Q s := by
  refine TL_estep hg _ (fun E M w a hE hst => ?_) h
  have rx := ev_rel hst.size hst.slots x
  rw [hx] at rx
  simp only [LV.rel, C.rel] at rx
  obtain ⟨ba, hba, rfl⟩ := relD_str rx
  have hsz : ba.size = ba.data.toList.length := by rw [Array.length_toList]; rfl
  have hrun : (execOp a.eval o).run P w = .ok (.value (.slice (some ⟨w.heap.size, 0, none⟩) ba.size (grownCap w ba.size 0 e))) (bytesWorld w e ba) := by
    have h1 := Go.Lib.run_convert_string_bytes (P := P) w src dst e ba hs hdst he
    simp only [execOp, hop, hba, Sem.run_bind]
    rw [h1]; rfl
  have hge := grownCap_ge w ba.size 0 e
  have hcm : grownCap w ba.size 0 e ≤ maxLen := grownCap_le_maxLen w ba.size 0 e (by simp only [maxLen]; omega)
  have hcsz : (bytesCells w e ba).size = grownCap w ba.size 0 e := by
    simp only [bytesCells, Array.size_append, Array.size_map, Array.size_replicate]
    have : ba.data.size = ba.size := rfl
    omega
  have hM : rowM e ba.data.toList w.heap.size (.slice (some ⟨w.heap.size, 0, none⟩) ba.size (grownCap w ba.size 0 e)) (.cells (bytesCells w e ba) e ((bytesCells w e ba).size, (bytesCells w e ba).size + 1)) := by
    refine ⟨_, _, _, by rw [← hsz], rfl, .inr (Nat.le_refl _), by omega, hcm, hcsz, ?_⟩
    simp only [bytesCells, Array.toList_append, Array.toList_map]
    rw [List.take_left' (by simp)]
    rfl
  have hgr : w.grownBy (bytesWorld w e ba) none := ⟨rfl, rfl, rfl, by rw [bytesWorld_size]; omega, fun k hk _ => bytesWorld_at_old w e ba k hk⟩
  obtain ⟨M', hst', hrv⟩ := hst.pushObj (oid := none) (id := id) (by rw [hE]; exact Nat.le_of_ble_eq_true hb) (row := none) (.inl ⟨rfl, rfl⟩) hgr (.inr (Nat.le_refl _)) (bytesWorld_at_new w e ba) rfl hM
  refine EStep.of_run (M' := M') hrun ?_
  rw [hd]
  exact hst'.put (some d) (by simp only [LV.rel, C.rel]; exact hrv.symm)

theorem TL_appM {ops : Array Oper} {o : Oper} {rest : List Oper} (t t' e d oid id : Nat) (bs ns : List UInt8) {x y : Operand} (hop : o.op = .call { callee := .builtin .append, args := #[x, y], argTypes := #[t, t'] }) (hd : o.dst = some d) (hg : o.guard = none)
    (hu : P.underlying t = some (.slice e)) (hi : (P.info? e).map (fun i => (i.size, i.bytes, i.zero.bind fun z => match z with | .int .u8 0 => some () | _ => none)) = some (1, 1, some ())) (hx : s.ev x = .one (.own oid)) (hl : s.bx.lookup oid = some (.obj (rowM e bs)))
    (hy : (t' = t ∧ (s.ev y = .one (.dat (.sl 1 (ns.map elB))) ∨ ∃ j, s.ev y = .one (.own j) ∧ s.bx.lookup j = some (.row e 1 (ns.map elB)))) ∨ (P.underlying t' = some .string ∧ s.ev y = .one (.dat (.str ns)))) (hroom : bs.length + ns.length ≤ 140737488355328) (hb : Nat.ble base id = true)
    (h : TL P base ops rest Q ((((s.drop oid).drop id).push id (.obj (rowM e (bs ++ ns)))).put (some d) (.one (.own id)))) : TL P base ops (o :: rest) Q s := by
  refine TL_estep hg _ (fun E M w a hE hst => ?_) h
  obtain ⟨ie, hie, he⟩ := Option.map_eq_some_iff.1 hi
  simp only [Prod.mk.injEq] at he
  obtain ⟨hs1, hb1, hz⟩ := he
  have hz' : ie.zero = some (.int .u8 0) := by
    obtain ⟨z, hz0, hz1⟩ := Option.bind_eq_some_iff.1 hz
    split at hz1
    · exact hz0
    · cases hz1
  have rx := ev_rel hst.size hst.slots x
  have ry := ev_rel hst.size hst.slots y
  rw [hx] at rx
  simp only [LV.rel, C.rel] at rx
  have hm := lookup_mem hl
  obtain ⟨o0, g1, _, g3⟩ := hst.boxes.ok oid _ hm
  rw [← rx] at g3
  have hone : cellsOne (ns.map elB) := elB_one ns
  have hsrc : srcM P w t t' (a.eval y) ns := by
    have same : ∀ l, l = s.ev y → t' = t → srcRow P s.bx t t ie l = some (ns.map elB) → srcM P w t t' (a.eval y) ns := by
      intro l he ht hsr
      rw [← he] at ry
      obtain ⟨hu2, nv, hnl, hyv, h1c, hc2⟩ := srcRow_same hst.boxes.ok hsr ry hone
      have hnv : nv = u8s ns := by
        refine List.ext_getElem? fun j => ?_
        rw [List.length_map, hs1, Nat.mul_one] at hnl
        by_cases hj : j < ns.length
        · obtain ⟨u, hu, hr⟩ := hc2 j (elB ns[j]) (by rw [flat_elB, List.getElem?_map, List.getElem?_eq_getElem hj]; rfl)
          rw [hu, relD_int hr, u8s, List.getElem?_map, List.getElem?_eq_getElem hj]; rfl
        · rw [List.getElem?_eq_none (by omega), List.getElem?_eq_none (by rw [u8s_length]; omega)]
      subst hnv
      rw [List.length_map] at hyv
      refine .inl ⟨ht, hyv.imp (fun h => ⟨h.1, List.eq_nil_of_length_eq_zero h.2⟩) fun h => h⟩
    rcases hy with ⟨ht, hy | ⟨j, hy, hlj⟩⟩ | ⟨hstr, hy⟩
    · exact same _ hy.symm ht (by simp [srcRow, hs1])
    · exact same _ hy.symm ht (by simp [srcRow, hlj, hs1])
    · rw [hy] at ry
      simp only [LV.rel, C.rel] at ry
      obtain ⟨ba, hba, rfl⟩ := relD_str ry
      exact .inr ⟨hstr, by rw [hba]⟩
  obtain ⟨v', w', g', o', hr, hh, hM, hgr, hg'⟩ := append_M (ty := o.type) hu hie hz' hs1 hb1 g1 g3 hsrc hroom
  obtain ⟨M', hst', hrv⟩ := hst.pushObj (oid := some oid) (id := id) (by rw [hE]; exact Nat.le_of_ble_eq_true hb) (row := some (M.blk oid)) (.inr ⟨oid, _, rfl, hm, rfl⟩) hgr (hg'.imp (fun h => by rw [h]) fun h => h) hh (rowM_boxy hM) hM
  have hrun : (execOp a.eval o).run P w = .ok (.value v') w' := by
    rw [run_builtin hop]
    simp only [builtin, Sem.run_bind, List.map_toArray, List.map_cons, List.map_nil, hr, Result.andThen_ok, Sem.run_pure]
  refine EStep.of_run (M' := M') hrun ?_
  rw [hd]
  exact hst'.put (some d) (by simp only [LV.rel, C.rel]; exact hrv.symm)

theorem TL_mark {ops : Array Oper} {o : Oper} {rest : List Oper} (t e d id : Nat) (bs : List UInt8) {x : Operand} (hop : o.op = .convert t t x) (hd : o.dst = some d) (hg : o.guard = none) (hu : P.underlying t = some (.slice e)) (he : P.underlying e = some (.int .u8))
    (hx : s.ev x = .one (.own id)) (hl : s.bx.lookup id = some (.row e 1 (bs.map elB))) (hpos : 0 < bs.length) (h : TL P base ops rest Q ((s.setBox id (.obj (rowM e bs))).put (some d) (.one (.own id)))) : TL P base ops (o :: rest) Q s := by
  refine TL_estep hg _ (fun E M w a hE hst => ?_) h
  have rx := ev_rel hst.size hst.slots x
  rw [hx] at rx
  simp only [LV.rel, C.rel] at rx
  have hm := lookup_mem hl
  obtain ⟨xs, hown, huni, hsz, hc, hblk⟩ := hst.boxes.ok id _ hm
  rw [List.length_map] at hown
  have hxs : xs = u8s bs := by
    have hlen := hown.1
    refine List.ext_getElem? fun j => ?_
    by_cases hj : j < bs.length
    · obtain ⟨u, hu, hr⟩ := hc j (elB bs[j]) (by rw [flat_elB, List.getElem?_map, List.getElem?_eq_getElem hj]; rfl)
      rw [hu, relD_int hr, u8s, List.getElem?_map, List.getElem?_eq_getElem hj]; rfl
    · rw [List.getElem?_eq_none (by omega), List.getElem?_eq_none (by rw [u8s_length]; omega)]
  subst hxs
  rcases hown.2 with ⟨_, h0⟩ | ⟨g, cap, cur, hrv, hb0, hg0, hnc, hcm, hcz, htake⟩
  · omega
  · have hgb : g = M.blk id := hblk g (by rw [hrv]; rfl)
    subst hgb
    rw [Nat.mul_one] at hcz htake
    have hsh : w.shape? (M.blk id) = some (e, cur.size) := by unfold World.shape?; rw [hg0]
    have hrun : (execOp a.eval o).run P w = .ok (.value (a.eval x)) (w.freeze ⟨M.blk id, cur.size, none⟩ 1) := by
      simp only [execOp, hop, rx, hrv, Sem.run_bind]
      simp [convert, run_underlying hu, run_underlying he, markStringish, hsh]
    have hnew : (w.freeze ⟨M.blk id, cur.size, none⟩ 1).heap[M.blk id]? = some (.cells cur e (cur.size, cur.size + 1)) := by
      simp [World.freeze, Array.getElem?_modify, hg0]
    have hgr : w.grownBy (w.freeze ⟨M.blk id, cur.size, none⟩ 1) (some (M.blk id)) := by
      refine ⟨rfl, rfl, rfl, by simp [World.freeze], fun k hk hne => ?_⟩
      have : M.blk id ≠ k := fun h => hne (by rw [h])
      simp [World.freeze, Array.getElem?_modify, this]
    have hbb : boxBlk M (id, .row e 1 (bs.map elB)) = some (M.blk id) := by show (M.rv id).ownBlock = _; rw [hrv]; rfl
    refine EStep.of_run (M' := M) hrun ?_
    rw [hd]
    refine St.put (hst.setBox (b := .obj (rowM e bs)) hm (by rw [hbb]; rfl) (by rw [hbb]; exact hgr) fun A' _ => ⟨_, hnew, rfl, cap, cur, _, hrv, rfl, .inr (Nat.le_refl _), hnc, hcm, hcz, htake⟩) (some d) (by simp only [LV.rel, C.rel]; exact rx)
end
end Go.DL

namespace Go.Proofs
open Go.Shelf Go.RowKit Go.Sort Go.Lib
section
variable {P : Program} {w : World}
theorem wpList_app {ops : Array Oper} {rest : List Oper} {o : Oper} {a : Act} {Q : Exit → Act → World → Prop} (hgd : o.guard = none) (s x : Operand) (t : TypeId) (ho : o.op = .call { callee := .builtin .append, args := #[s, x], argTypes := #[t, t] })
    (e : TypeId) (i : TypeInfo) (z : Value) (ht : P.underlying t = some (.slice e)) (hi : P.info? e = some i) (hz : i.zero = some z) (hs1 : i.size = 1) (hb1 : i.bytes = 1) (hzs : z.cells.size = 1)
    (v : Value) (n : Nat) (xs : List Value) (hs : a.eval s = v) (hown : w.ownsRow 0 e 1 v n xs) (ad : Addr) (m c : Nat) (news : List Value) (hx : a.eval x = .slice (some ad) m c) (hl : news.length = m) (hnews : ∀ j u, news[j]? = some u → w.cell? (ad.add j) = some u) (h1 : ∀ u ∈ news, u.oneCell' = true)
    (hbytes : n + m ≤ 140737488355328)
    (h : ∀ v' w', w'.ownsRow 0 e 1 v' (n + m) (xs ++ news) → w.grownBy w' v.ownBlock → (∀ k, v'.ownBlock = some k → v.ownBlock = some k ∨ w.heap.size ≤ k) → wpList P ops Q rest (a.put o.dst v') w') : wpList P ops Q (o :: rest) a w := by
  refine wpList_plain hgd fun K hK => ?_
  obtain ⟨v', w', hr, h2, h3, h4⟩ := Go.DL.run_append_own' (P := P) (w := w) t o.type e i z ht hi hz (by rw [hzs, hs1]) (by omega) v n xs (by rw [hs1]; exact hown) (.slice (some ad) m c) m news (by rw [hs1]; omega) (.inr ⟨ad, c, rfl, hnews⟩) h1 (by omega) (by rw [hb1]; omega)
  rw [hs1] at h2
  unfold Oper.wp execOp
  simp only [ho, resolve, invoke, builtin, Sem.run_bind, Sem.run_pure, Result.andThen_ok, List.map_toArray, List.map_cons, List.map_nil, hs, hx, hr]
  exact hK _ _ (h v' w' h2 h3 h4)
theorem wpList_appS {ops : Array Oper} {rest : List Oper} {o : Oper} {a : Act} {Q : Exit → Act → World → Prop} (hgd : o.guard = none) (s x : Operand) (t u : TypeId) (ho : o.op = .call { callee := .builtin .append, args := #[s, x], argTypes := #[t, u] })
    (e : TypeId) (i : TypeInfo) (ht : P.underlying t = some (.slice e)) (hu : P.underlying u = some .string) (hi : P.info? e = some i) (hz : i.zero = some (.int .u8 0)) (hs1 : i.size = 1) (hb1 : i.bytes = 1)
    (v : Value) (n : Nat) (xs : List Value) (hs : a.eval s = v) (hown : w.ownsRow 0 e 1 v n xs) (b : ByteArray) (hx : a.eval x = .string b) (hbytes : n + b.size ≤ 140737488355328)
    (h : ∀ v' w', w'.ownsRow 0 e 1 v' (n + b.size) (xs ++ strCells b) → w.grownBy w' v.ownBlock → (∀ k, v'.ownBlock = some k → v.ownBlock = some k ∨ w.heap.size ≤ k) → wpList P ops Q rest (a.put o.dst v') w') : wpList P ops Q (o :: rest) a w := by
  refine wpList_plain hgd fun K hK => ?_
  obtain ⟨v', w', hr, h2, h3, h4⟩ := Go.DL.run_append_own_str' (P := P) (w := w) t u o.type e i ht hu hi hz hs1 hb1 v n xs hown b hbytes
  unfold Oper.wp execOp
  simp only [ho, resolve, invoke, builtin, Sem.run_bind, Sem.run_pure, Result.andThen_ok, List.map_toArray, List.map_cons, List.map_nil, hs, hx, hr]
  exact hK _ _ (h v' w' h2 h3 h4)
end
variable {P : Program} {ρ : Ren}
def Grown (e : TypeId) (v : Value) (n : Nat) (xs : List Value) (bs : List UInt8) (w : World) (en : Ending) (w' : World) : Prop :=
  ∃ v', en = .returned v' ∧ w'.ownsRow 0 e 1 v' (n + bs.length) (xs ++ Lib.byteCells bs) ∧ w.grownBy w' v.ownBlock ∧ ∀ k, v'.ownBlock = some k → v.ownBlock = some k ∨ w.heap.size ≤ k

set_option maxHeartbeats 6400000 in
set_option maxRecDepth 100000 in
theorem appendUint_small (L : LaysM.n288 P ρ) (n u : Nat) (hu : u < 100) (sv : Value) (xs : List Value) (w : World) (hown : w.ownsRow 0 (ρ.t 5) 1 sv n xs) (hlim : n + 20 ≤ 140737488355328) :
    Calls P (ρ.f 288) #[sv, .int .u64 u, .int .i64 10] w (Grown (ρ.t 5) sv n xs (Lib.decDigits u) w) := by
  have mixed := L.mixed
  have t5 := L.t5; have a5 := L.a5; have z5 := L.z5; have v5 := L.v5
  have t37 := L.t37; have u37 := run_underlying L.t37; have a37 := L.a37; have z37 := L.z37; have v37 := L.v37
  have t53 := L.t53; have a53 := L.a53; have z53 := L.z53; have v53 := L.v53
  have t3 := L.t3; have a3 := L.a3; have z3 := L.z3; have v3 := L.v3
  have t4 := L.t4; have a4 := L.a4; have z4 := L.z4; have v4 := L.v4
  have t9 := L.t9; have a9 := L.a9; have z9 := L.z9; have v9 := L.v9
  have t171 := L.t171; have a171 := L.a171; have z171 := L.z171; have v171 := L.v171
  have t0 := L.t0; have a0 := L.a0; have z0 := L.z0; have v0 := L.v0
  have t173 := L.t173; have a173 := L.a173; have z173 := L.z173; have v173 := L.v173
  have e283 : ∀ args w, (callFunc (ρ.f 283) args).run P w = .ok (.enter (ρ.f 283) args) w := enters_of L.f283 (by kernel_rfl) rfl
  obtain ⟨i0, hi, hz0, hz1, hz2⟩ := info_parts L.i5
  have hlen : (Lib.decDigits u).length ≤ 20 := by
    rw [Lib.decDigits_length]
    by_cases h10 : u < 10
    · rw [Lib.nDigits_small h10]; omega
    · rw [Lib.nDigits_big h10, Lib.nDigits_small (show u / 10 < 10 by omega)]; omega
  have hsz : (⟨(Lib.decDigits u).toArray⟩ : ByteArray).size = (Lib.decDigits u).length := by simp [ByteArray.size]
  go_enter L.f288, Body.n288_ntmps ρ
  go_wp2_with (first
    | (go_at_fn (ρ.f 283); refine (Any.internal_strconv_small { L with } u hu _).mono ?_; rintro e w' ⟨rfl, rfl⟩)
    | (at_builtin; refine wpList_appS rfl _ _ (ρ.t 37) (ρ.t 9) rfl (ρ.t 5) i0 L.t37 L.t9 hi hz0 hz1 hz2 _ _ _ rfl hown ⟨(Lib.decDigits u).toArray⟩ rfl (by rw [hsz]; omega) ?_))
  intro v' w1 hown' hgrow hblk
  go_wp2
  go_ret
  refine ⟨v', rfl, ?_, hgrow, hblk⟩
  first | exact hown' | (rw [hsz] at hown'; exact hown')

set_option maxHeartbeats 12800000 in
set_option maxRecDepth 100000 in
theorem appendUint_big (L : LaysM.n288 P ρ) (n u : Nat) (hu : 100 ≤ u) (hu64 : u < 18446744073709551616) (sv : Value) (xs : List Value) (w : World) (hown : w.ownsRow 0 (ρ.t 5) 1 sv n xs) (hlim : n + 20 ≤ 140737488355328)
    (htab : Lib.TabIs P w "internal/strconv.uint64pow10" .u64 Lib.pow10Tab) :
    Calls P (ρ.f 288) #[sv, .int .u64 u, .int .i64 10] w (Grown (ρ.t 5) sv n xs (Lib.decDigits u) w) := by
  have mixed := L.mixed
  have t5 := L.t5; have a5 := L.a5; have z5 := L.z5; have v5 := L.v5
  have t37 := L.t37; have u37 := run_underlying L.t37; have a37 := L.a37; have z37 := L.z37; have v37 := L.v37
  have t53 := L.t53; have a53 := L.a53; have z53 := L.z53; have v53 := L.v53
  have t3 := L.t3; have a3 := L.a3; have z3 := L.z3; have v3 := L.v3
  have t4 := L.t4; have a4 := L.a4; have z4 := L.z4; have v4 := L.v4
  have t9 := L.t9; have a9 := L.a9; have z9 := L.z9; have v9 := L.v9
  have t171 := L.t171; have a171 := L.a171; have z171 := L.z171; have v171 := L.v171
  have t0 := L.t0; have a0 := L.a0; have z0 := L.z0; have v0 := L.v0
  have t173 := L.t173; have a173 := L.a173; have z173 := L.z173; have v173 := L.v173
  have e284 : ∀ args w, (callFunc (ρ.f 284) args).run P w = .ok (.enter (ρ.f 284) args) w := enters_of L.f284 (by kernel_rfl) rfl
  have e285 : ∀ args w, (callFunc (ρ.f 285) args).run P w = .ok (.enter (ρ.f 285) args) w := enters_of L.f285 (by kernel_rfl) rfl
  obtain ⟨i0, hi, hz0, hz1, hz2⟩ := info_parts L.i5
  have hu1 : 1 ≤ u := by omega
  have hnd20 : Lib.nDigits u ≤ 20 := by have := Lib.numDigits_eq u hu1 hu64; split at this <;> omega
  have hal : P.arrayLen (ρ.t 171) = 24 := by simp [Program.arrayLen, L.t171]
  have hsl : ∀ W, (Instr.sliceAt (ρ.t 171) (.pointer (some ⟨w.heap.size, 0, none⟩)) none (some (.int .i64 (Lib.nDigits u : Int))) none).run P W = .ok (.slice (some ⟨w.heap.size, 0, none⟩) (Lib.nDigits u) 24) W := fun W => by
    rw [run_sliceAt_array_h W (ρ.t 171) ⟨w.heap.size, 0, none⟩ (by simp [Program.arrayLen, Program.elem, L.t171]) .i64 (Lib.nDigits u : Int) (by omega) (by rw [hal]; omega)]
    go_simp
  have hH0 := Lib.holds_zero0 w (ρ.t 171) (Lib.nDigits u) (by omega)
  have hfmt := Any.internal_strconv_formatBase10 { L with } w.heap.size 0 24 u (Array.replicate (Lib.nDigits u) 0) (w.alloc (.cells Lib.zeros24 (ρ.t 171))) hH0 (by rw [Array.size_replicate]; exact Lib.lt_pow_nDigits u) hu64 (by rw [Array.size_replicate]; omega)
  rw [Array.size_replicate] at hfmt
  have HH0 := Lib.hid hH0
  have iu : (100 : Int) ≤ (u : Int) := by omega
  clear hH0 hal
  go_enter L.f288, Body.n288_ntmps ρ
  go_wp2_with (first
    | (go_at_fn (ρ.f 284); refine (Any.internal_strconv_numDigits { L with } u hu1 hu64 _ (Lib.tabIs_alloc htab _)).mono ?_; rintro e w' ⟨rfl, rfl⟩))
  go_at_fn (ρ.f 285)
  refine hfmt.mono ?_
  rintro e w' ⟨rfl, k, v', dk, rfl, hF⟩
  have hcells : ∀ j u', (Lib.byteCells (Lib.decDigits u))[j]? = some u' → ((putRow (fun (b : UInt8) => Value.int .u8 (b.toNat : Int)) (w.alloc (.cells Lib.zeros24 (ρ.t 171))) w.heap.size 0 dk).drewN k).cell? ((⟨w.heap.size, 0, none⟩ : Addr).add j) = some u' := by
    intro j u' hj
    have hjl : j < (Lib.decDigits u).length := by
      have h5 := (List.getElem?_eq_some_iff.1 hj).1
      rwa [Lib.byteCells_length] at h5
    have e5 : (Lib.byteCells (Lib.decDigits u))[j]? = some (Value.int .u8 ((Lib.decDigits u)[j].toNat : Int)) := by simp [Lib.byteCells, hjl]
    rw [e5] at hj
    cases hj
    rw [Lib.row_is_numeral hF j hjl, Lib.add_plain, World.cell?_drewN]
    exact cell?_putRow (fun (b : UInt8) => Value.int .u8 (b.toNat : Int)) _ w.heap.size 0 _ dk HH0.out (by rw [hF.size, Array.size_replicate]) j (by rw [hF.size]; rw [Lib.decDigits_length] at hjl; exact hjl)
  obtain ⟨os, eo⟩ := Lib.fin_at w (.cells Lib.zeros24 (ρ.t 171)) dk k 0
  have hown2 : ((putRow (fun (b : UInt8) => Value.int .u8 (b.toNat : Int)) (w.alloc (.cells Lib.zeros24 (ρ.t 171))) w.heap.size 0 dk).drewN k).ownsRow 0 (ρ.t 5) 1 sv n xs := by rw [eo]; exact Lib.ownsRow_grow hown k os
  have hnx2 : Below w.heap.size w ((putRow (fun (b : UInt8) => Value.int .u8 (b.toNat : Int)) (w.alloc (.cells Lib.zeros24 (ρ.t 171))) w.heap.size 0 dk).drewN k) := by rw [eo]; exact Lib.below_grow w.heap.size w (Nat.le_refl _) k os
  generalize (putRow (fun (b : UInt8) => Value.int .u8 (b.toNat : Int)) (w.alloc (.cells Lib.zeros24 (ρ.t 171))) w.heap.size 0 dk).drewN k = W2 at hcells hown2 hnx2 ⊢
  clear eo HH0 hfmt
  go_wp2_with (at_builtin; refine wpList_app rfl _ _ (ρ.t 37) rfl (ρ.t 5) i0 (.int .u8 0) L.t37 hi hz0 hz1 hz2 rfl _ _ _ rfl hown2 ⟨w.heap.size, 0, none⟩ (Lib.nDigits u) 24 (Lib.byteCells (Lib.decDigits u)) rfl ?c0 hcells ?c2 ?c3 ?_)
  case c0 => rw [Lib.byteCells_length, Lib.decDigits_length]
  case c2 => intro u' hu'; simp only [Lib.byteCells, List.mem_map] at hu'; obtain ⟨b, _, rfl⟩ := hu'; rfl
  case c3 => omega
  intro v2 w3 hown' hgrow hblk
  go_wp2
  go_ret
  have hsz2 := hnx2.size
  refine ⟨v2, rfl, ?_, ⟨hgrow.os.trans hnx2.os, hgrow.tape.trans hnx2.tape, hgrow.output.trans hnx2.output, Nat.le_trans hsz2 hgrow.size, fun k hk hne => (hgrow.block k (Nat.lt_of_lt_of_le hk hsz2) hne).trans (hnx2.block k hk)⟩, fun k hk => (hblk k hk).imp (fun h => h) fun h => Nat.le_trans hsz2 h⟩
  rw [Lib.decDigits_length]
  exact hown'
end Go.Proofs

namespace Go.DL
open Go.RowKit Go.Shelf Go.Proofs
def pinO (v : Value) (o : Obj) : Prop := ∃ (arr : Array Value) (T f1 f2 : Nat), v = .tuple #[.agg arr, .int .i64 (T : Int), .int .i64 (f1 : Int), .int .i64 (f2 : Int)] ∧ o = .cells arr T (f1, f2)
theorem pinO.inj {v : Value} {o o' : Obj} (h : pinO v o) (h' : pinO v o') : o = o' := by
  obtain ⟨a, T, f1, f2, rfl, rfl⟩ := h
  obtain ⟨a', T', f1', f2', h1, rfl⟩ := h'
  simp only [Value.tuple.injEq, Array.mk.injEq, List.cons.injEq, Value.agg.injEq, Value.int.injEq, true_and, and_true, Int.ofNat_inj] at h1
  obtain ⟨rfl, h2, h3, h4⟩ := h1
  subst h2; subst h3; subst h4; rfl
def tabP (P : Program) : Nat → Value → Obj → Prop := fun b v o => pinO v o ∧ ∀ w : World, w.heap[b]? = some o → Lib.TabIs P w "internal/strconv.uint64pow10" .u64 Lib.pow10Tab
def errP (g : Nat) : Nat → Value → Obj → Prop := fun b v o => ∃ te pe, pinO v o ∧ ∀ w : World, w.heap[b]? = some o → w.cell? ⟨g, 0, none⟩ = some (.iface te pe)
def parseO (s : List UInt8) : Option Int := match Lib.parseIntB 64 s with | .ok v => some v | _ => none
section
variable {P : Program} {ρ : Ren} {base : Nat} {Q : DX → DS → Prop} {s : DS} {ops : Array Oper} {o : Oper} {rest : List Oper}
theorem fn_none {w : World} {A : Nat → Prop} {M : BMap} {f : FuncId} {v : Value} (h : LV.rel w A M (.one (.fn f [])) v) : v = .func (.func f) #[] #[] := by
  obtain ⟨cv, hfv, hcs, hcv⟩ := h
  have hcv0 : cv = #[] := Array.eq_empty_of_size_eq_zero (by simpa using hcs)
  subst hcv0
  exact hfv
theorem TL_fmtInt (L : LaysM.n173 P ρ) (d tid : Nat) (n : Int) {fop x y : Operand} {ts : Array TypeId} (ho : o.op = .call { callee := .value fop, args := #[x, y], argTypes := ts }) (hd : o.dst = some d) (hg : o.guard = none) (hf : s.ev fop = .one (.fn (ρ.f 173) []))
    (hx : s.ev x = .one (.dat (.int .i64 n))) (hy : s.ev y = .one (.dat (.int .i64 10))) (hn : -9223372036854775808 ≤ n ∧ n ≤ 9223372036854775807) (ht : s.bx.lookup tid = some (.obj (tabP P)))
    (h : TL P base ops rest Q (s.put (some d) (.one (.dat (.str (Lib.itoa n)))))) : TL P base ops (o :: rest) Q s := by
  intro E M w a hE hst
  refine wpList_plain hg fun K hK => ?_
  have hslots := ev_rel hst.size hst.slots
  have rf := hslots fop; have rx := hslots x; have ry := hslots y
  rw [hf] at rf; rw [hx] at rx; rw [hy] at ry
  have rf := fn_none rf
  simp only [LV.rel, C.rel] at rx ry
  have rx := relD_int rx; have ry := relD_int ry
  obtain ⟨ob, g1, _, g3⟩ := hst.boxes.ok tid _ (lookup_mem ht)
  unfold Oper.wp
  rw [run_call_func ho rf ⟨_, L.f173, by kernel_rfl, rfl⟩, Oper.upon_enter]
  have hargs : (#[x, y] : Array Operand).map a.eval ++ #[] = #[.int .i64 n, .int .i64 10] := by simp [rx, ry]
  rw [hargs]
  refine (Any.strconv_FormatInt_10 L n hn.1 hn.2 w (g3.2 w g1)).mono ?_
  rintro e w' ⟨rfl, k, os, rfl⟩
  refine hK _ _ (h E M _ _ hE ?_)
  rw [hd]
  exact St.put (hst.below (Lib.below_grow w.heap.size w (Nat.le_refl _) k os)) (some d) (by simp only [LV.rel, C.rel]; exact RelD.str ⟨(Lib.itoa n).toArray⟩)

theorem TL_parseInt (L : LaysC.n174 P ρ) (d i1 i2 : Nat) (b : List UInt8) {fop x y z : Operand} {ts : Array TypeId} (ho : o.op = .call { callee := .value fop, args := #[x, y, z], argTypes := ts }) (hd : o.dst = some d) (hg : o.guard = none) (hf : s.ev fop = .one (.fn (ρ.f 174) []))
    (hx : s.ev x = .one (.dat (.str b))) (hy : s.ev y = .one (.dat (.int .i64 10))) (hz : s.ev z = .one (.dat (.int .i64 64))) (hb : b.length ≤ 140737488355328) (h1 : s.bx.lookup i1 = some (.obj (errP (ρ.g 15)))) (h2 : s.bx.lookup i2 = some (.obj (errP (ρ.g 16))))
    (hok : ∀ v, parseO b = some v → TL P base ops rest Q (s.put (some d) (ofD (.tup [.int .i64 v, .con .nilIface]))))
    (hbad : parseO b = none → TL P base ops rest Q (s.put (some d) (ofD (.tup [.any, .iface (ρ.t 168) .any])))) : TL P base ops (o :: rest) Q s := by
  intro E M w a hE hst
  refine wpList_plain hg fun K hK => ?_
  have hslots := ev_rel hst.size hst.slots
  have rf := hslots fop; have rx := hslots x; have ry := hslots y; have rz := hslots z
  rw [hf] at rf; rw [hx] at rx; rw [hy] at ry; rw [hz] at rz
  have rf := fn_none rf
  simp only [LV.rel, C.rel] at rx ry rz
  have ry := relD_int ry; have rz := relD_int rz
  obtain ⟨bs, rx', rfl⟩ := relD_str rx
  have hsz : bs.size = bs.data.toList.length := by rw [Array.length_toList]; rfl
  obtain ⟨ob1, g1, _, te1, pe1, g3⟩ := hst.boxes.ok i1 _ (lookup_mem h1)
  obtain ⟨ob2, k1, _, te2, pe2, k3⟩ := hst.boxes.ok i2 _ (lookup_mem h2)
  unfold Oper.wp
  rw [run_call_func ho rf ⟨_, L.f174, by kernel_rfl, rfl⟩, Oper.upon_enter]
  have hargs : (#[x, y, z] : Array Operand).map a.eval ++ #[] = #[.string bs, .int .i64 10, .int .i64 64] := by simp [rx', ry, rz]
  rw [hargs]
  have bad : ∀ (n : Int) (N : Nat) (w' : World), Below w.heap.size w w' → parseO bs.data.toList = none → K (a.put o.dst (.tuple #[.int .i64 n, .iface (ρ.t 168) (.pointer (some ⟨N, 0, none⟩))])) w' := by
    intro n N w' hbel hp
    refine hK _ _ (hbad hp E M _ _ hE ?_)
    rw [hd]
    refine St.put (hst.below hbel) (some d) (ofD_rel (.tup _ _ rfl (fun j => if j = 0 then .int .i64 n else .iface (ρ.t 168) (.pointer (some ⟨N, 0, none⟩))) ?_ ?_))
    · intro j c hj
      match j with
      | 0 => rfl
      | 1 => rfl
      | j + 2 => simp at hj
    · intro j c hj
      match j with
      | 0 => cases hj; exact .any _ rfl
      | 1 => cases hj; exact .iface _ _ _ (.any _ rfl)
      | j + 2 => simp at hj
  cases hp : Lib.parseIntB 64 bs.data.toList with
  | ok v =>
    refine (Any.strconv_ParseInt_10_at64_ok L bs (by omega) v hp w).mono ?_
    rintro e w' ⟨rfl, hw⟩
    have hbel : Below w.heap.size w w' := by
      rcases hw with rfl | ⟨t, rfl⟩
      · exact Below.refl _ _
      · exact ⟨rfl, rfl, rfl, by rw [Lib.bytesWorld_size]; omega, fun k hk => Lib.bytesWorld_at_old w _ t k hk⟩
    refine hK _ _ (hok v (by simp [parseO, hp]) E M _ _ hE ?_)
    rw [hd]
    refine St.put (hst.below hbel) (some d) (ofD_rel (.tup _ _ rfl (fun j => if j = 0 then .int .i64 v else .nilIface) ?_ ?_))
    · intro j c hj
      match j with
      | 0 => rfl
      | 1 => rfl
      | j + 2 => simp at hj
    · intro j c hj
      match j with
      | 0 => cases hj; exact .int _ _
      | 1 => cases hj; exact .con _ rfl
      | j + 2 => simp at hj
  | range =>
    refine (Any.strconv_ParseInt_10_at64_range L bs (by omega) hp _ w (k3.2 w k1) (.inr ⟨_, _, rfl⟩)).mono ?_
    rintro e w' ⟨N, rfl, _, _, hbel⟩
    exact bad _ N w' hbel (by simp [parseO, hp])
  | _ =>
    refine (Any.strconv_ParseInt_10_at64_syntax L bs (by omega) hp _ w (g3.2 w g1) (.inr ⟨_, _, rfl⟩)).mono ?_
    rintro e w' ⟨N, rfl, _, _, hbel⟩
    exact bad _ N w' hbel (by simp [parseO, hp])

theorem byteCells_u8s (l : List UInt8) : Lib.byteCells l = u8s l := rfl
theorem TL_appUint (L : LaysM.n288 P ρ) (d tid id : Nat) (oid : Option Nat) (bs : List UInt8) (i : Int) {bv : Int} (hbv : bv = 10) {fop x y z : Operand} {ts : Array TypeId} (ho : o.op = .call { callee := .value fop, args := #[x, y, z], argTypes := ts }) (hd : o.dst = some d) (hg : o.guard = none) (hf : s.ev fop = .one (.fn (ρ.f 288) []))
    (hx : oldRow s.bx (ρ.t 5) 1 (s.ev x) = some (oid, bs.map elB)) (hy : s.ev y = .one (.dat (.int .u64 i))) (hz : s.ev z = .one (.dat (.int .i64 bv))) (hi : 0 ≤ i ∧ i < 18446744073709551616) (ht : s.bx.lookup tid = some (.obj (tabP P))) (hroom : bs.length + 20 ≤ 140737488355328) (hb : Nat.ble base id = true)
    (h : TL P base ops rest Q ((((dropOpt oid s).drop id).push id (.row (ρ.t 5) 1 ((bs ++ Lib.decDigits i.toNat).map elB))).put (some d) (.one (.own id)))) : TL P base ops (o :: rest) Q s := by
  subst hbv
  intro E M w a hE hst
  refine wpList_plain hg fun K hK => ?_
  have hslots := ev_rel hst.size hst.slots
  have rf := hslots fop; have rx := hslots x; have ry := hslots y; have rz := hslots z
  rw [hf] at rf; rw [hy] at ry; rw [hz] at rz
  have rf := fn_none rf
  simp only [LV.rel, C.rel] at ry rz
  have ry := relD_int ry; have rz := relD_int rz
  obtain ⟨ob, g1, _, g3⟩ := hst.boxes.ok tid _ (lookup_mem ht)
  obtain ⟨hu1, xs, hown, hc1, hoid⟩ := oldRow_owns hst.boxes.ok hx rx
  rw [List.length_map] at hown
  unfold Oper.wp
  rw [run_call_func ho rf ⟨_, L.f288, by kernel_rfl, rfl⟩, Oper.upon_enter]
  have hin : (i.toNat : Int) = i := Int.toNat_of_nonneg hi.1
  have hargs : (#[x, y, z] : Array Operand).map a.eval ++ #[] = #[a.eval x, .int .u64 (i.toNat : Int), .int .i64 10] := by simp [ry, rz, hin]
  rw [hargs]
  have hcall : Calls P (ρ.f 288) #[a.eval x, .int .u64 (i.toNat : Int), .int .i64 10] w (Grown (ρ.t 5) (a.eval x) bs.length xs (Lib.decDigits i.toNat) w) := by
    by_cases h100 : i.toNat < 100
    · exact appendUint_small L bs.length i.toNat h100 (a.eval x) xs w hown hroom
    · exact appendUint_big L bs.length i.toNat (by omega) (by omega) (a.eval x) xs w hown hroom (g3.2 w g1)
  refine hcall.mono ?_
  rintro e w' ⟨v', rfl, hown', hgr, hblk⟩
  rw [byteCells_u8s] at hown'
  obtain ⟨M', hst', hrv⟩ := hst.appended (oid := oid) (id := id) (by rw [hE]; exact Nat.le_of_ble_eq_true hb) (e := ρ.t 5) (sz := 1) (es := bs.map elB) (xs := (Lib.decDigits i.toNat).map elB) (v := a.eval x) (v' := v') (w' := w') (ov := xs) (nv := u8s (Lib.decDigits i.toNat)) hoid hu1
    (by intro d hd; obtain ⟨y, _, rfl⟩ := List.mem_map.1 hd; rfl) hc1 (fun j c hj => by
      rw [flat_elB, List.getElem?_map, Option.map_eq_some_iff] at hj
      obtain ⟨y, hy, rfl⟩ := hj
      exact ⟨.int .u8 (y.toNat : Int), by rw [u8s, List.getElem?_map, hy]; rfl, .int _ _⟩) (by have := hown.1; rw [List.length_map]; exact this) (by rw [List.length_map, List.length_map]; exact hown') hgr hblk
  refine hK _ _ (h E M' _ _ hE ?_)
  rw [hd, List.map_append]
  exact hst'.put (some d) (by simp only [LV.rel, C.rel]; exact hrv.symm)
end
end Go.DL

namespace Go.DL
open Go.RowKit Go.ChangeShapes Go.WideShapes
inductive PlD : D → Prop
  | i64 (n : Int) : PlD (.int .i64 n)
  | u8 (n : Int) : PlD (.int .u8 n)
  | str (s : List UInt8) : PlD (.str s)
  | sl (sz : Nat) (es : List D) (h : ∀ e ∈ es, ∀ c ∈ e.cells, PlD c) : PlD (.sl sz es)
  | agg (cs : List D) (h : ∀ c ∈ cs, PlD c) : PlD (.agg cs)
def odd (v : Value) : Prop := (∃ n, v = .int .u64 n) ∨ ∃ t u, v = .iface t u
theorem PlD.not_odd {w : World} {A : Nat → Prop} {d : D} {v : Value} (h : PlD d) (hr : RelD w A d v) : ¬ odd v := by
  intro ho
  cases h <;> cases hr <;> rcases ho with ⟨n, h⟩ | ⟨t, u, h⟩ <;> cases h
theorem RelD.avoid {w : World} {A : Nat → Prop} (hA : ∀ b off v, A b → w.cell? ⟨b, off, none⟩ = some v → odd v) {d : D} {v : Value} (h : RelD w (fun _ => False) d v) : PlD d → RelD w A d v := by
  induction h with
  | int k n => exact fun _ => .int k n
  | bool b => exact fun _ => .bool b
  | str bs => exact fun _ => .str bs
  | con v h => exact fun _ => .con v h
  | sl sz es b off cap vs hlen huni hmem hrel ih =>
    intro hp
    have hc : ∀ (j : Nat) (c : D), (flat es)[j]? = some c → PlD c := by
      intro j c hj
      cases hp with
      | sl _ _ h =>
        obtain ⟨e, he, hce⟩ := List.mem_flatMap.1 (List.mem_of_getElem? hj)
        exact h e he c hce
    refine .sl sz es b off cap vs hlen huni (fun j c hj => ⟨fun hb => ?_, (hmem j c hj).2⟩) fun j c hj => ih j c hj (hc j c hj)
    exact (hc j c hj).not_odd (hrel j c hj) (hA b _ _ hb (hmem j c hj).2)
  | sl0 sz a cap h => exact fun _ => .sl0 sz a cap h
  | agg cs arr hs vs hv hrel ih =>
    intro hp
    refine .agg cs arr hs vs hv fun j c hj => ih j c hj ?_
    cases hp with
    | agg _ h => exact h c (List.mem_of_getElem? hj)
  | _ => intro hp; cases hp
theorem Boxes.start {W : World} {n : Nat} {M : BMap} {G : List (Nat × Box)} (hok : ∀ id b, (id, b) ∈ G → BoxOK W (Av (fun _ => False) M G) M id b) (hids : (G.map (·.1)).Nodup) (hblks : (G.filterMap (boxBlk M)).Nodup)
    (hlt : ∀ p ∈ G, ∀ k, boxBlk M p = some k → k < W.heap.size) : Boxes (envOf W (fun _ => False) n M G) M W G :=
  ⟨hok, hids, hblks, fun p hp k hk => ⟨.inl ⟨p, hp, hk⟩, hlt p hp k hk⟩, fun _ h => h.elim, Fr.refl _ _, fun p hp _ => ⟨List.mem_map.2 ⟨p, hp, rfl⟩, rfl, rfl, rfl⟩⟩
section
variable {P : Program}
theorem law_callG {H : Type} {enc : TypeId × Value → H} {f : FuncId} {fn : Func} {s : ChangeSpec} {apart fresh handsOn : Bool} {W : World} {args : Array Value} {ds gs : List (DataW H)} {before : List MemPlace}
    (hW : DataW.Whole enc P fn.params.toList s.vars apart W args.toList ds gs before) (hl : laidOutB P = true) (hrec : ∀ t ∈ fn.params.toList, P.readableRec t = true ∧ t < P.types.size) (tb : TypeId) (hrt : fn.resultTypes = #[tb]) (htb : P.underlying tb = some .bool)
    (hv : s.vars = []) (hspec : s.fn H ds = { results := [.lit (.bool true)], args := ds }) (n : Nat) (ls : List LV) (G : List (Nat × Box)) (M : BMap) (R : CO → Prop)
    (hG : ∀ p ∈ G, p.1 < n ∧ ∃ q, p.2 = .obj q ∧ ∀ b v o, q b v o → pinO v o) (hB : Boxes (envOf W (fun _ => False) n M G) M W G) (hct : CT P f n ls G R) (hR : ∀ co, R co → co = .ret (.one (.dat (.bool true))) G)
    (hlen : args.size = ls.length) (hrel : ∀ (j : Nat) (l : LV), ls[j]? = some l → ∃ u, args[j]? = some u ∧ LV.rel W (Av (fun _ => False) M G) M l u) :
    Calls P f args W fun e W' => ∃ v, e = .returned v ∧ s.post enc P fn apart fresh handsOn false W args v W' := by
  refine (hct.2 W (fun _ => False) M args hB hlen hrel).mono ?_
  rintro e W' ⟨M', co, hco, hok⟩
  have hco := hR co hco
  subst hco
  obtain ⟨hB', v, rfl, hr⟩ := hok
  have hvt : v = .bool true := relD_bool hr
  subst hvt
  have hb : Below W.heap.size W W' := by
    refine ⟨hB'.frame.os, hB'.frame.tape, hB'.frame.output, hB'.frame.size, fun k hk => ?_⟩
    by_cases ho : ∃ p ∈ G, boxBlk M p = some k
    · obtain ⟨⟨i, b⟩, hp, hk2⟩ := ho
      obtain ⟨hi, q, hq, hpin⟩ := hG _ hp
      simp only at hq
      subst hq
      simp only [boxBlk, Option.some.injEq] at hk2
      obtain ⟨o, h1, _, h2⟩ := hB.ok i _ hp
      obtain ⟨o', h3, _, h4⟩ := hB'.ok i _ hp
      obtain ⟨_, h5, h6, _⟩ := hB'.old _ hp hi
      simp only at h5 h6
      rw [h5] at h3
      rw [h6] at h4
      have e1 : M.blk i = k := hk2
      have := (hpin _ _ _ h2).inj (hpin _ _ _ h4)
      subst this
      rw [← e1, h1]; exact h3
    · exact hB'.frame.block k hk ho
  have hlt := hW.lt
  have hW' := hW
  obtain ⟨p, q, hA, hV, rfl, hfz, hnd⟩ := hW
  rw [hv] at hV
  obtain ⟨rfl, rfl⟩ := trodVars_none hV
  rw [List.append_nil] at hW' hlt
  have hold : ∀ x ∈ p, (fun b => decide (b < W.heap.size)) x.block = true := fun x hx => by simpa using hlt x hx
  refine ⟨.bool true, rfl, ds, [], p, [], p, [], hW', ?_, ?_, ?_, ?_, fun h => by cases h⟩
  · rw [List.append_nil, hspec, hrt]
    exact trodAll_mk1 (shut_bool htb true)
  · rw [List.append_nil, hspec]
    exact trodAll_stay hl hA hrec (fun x hx => hb.same (hlt x hx)) hold
  · rw [List.append_nil, hspec, hv]
    exact rfl
  · exact hb.frame _
end
end Go.DL

namespace Go.DL
theorem gt_invE {α ρ : Type} {r : ρ} (enc enc1 : α → D) (he : ∀ x, enc x = enc1 x) {l : List α} {i : Int} {k : α → Option ρ} (h : gt l i k = some r) :
    ∃ x, (0 ≤ i ∧ (l.map enc)[i.toNat]? = some (enc1 x)) ∧ (0 ≤ i ∧ i < (((l.map enc).length : Nat) : Int)) ∧ (l.map enc)[i.toNat]? = some (enc1 x) ∧ k x = some r := by
  obtain ⟨x, h1, h2, h3, h4⟩ := gt_inv enc h
  exact ⟨x, by rw [← he]; exact h1, h2, by rw [← he]; exact h3, h4⟩
theorem gn_invE {α ρ : Type} {r : ρ} (enc enc1 : α → D) (he : ∀ x, enc x = enc1 x) {l : List α} {n : Nat} {k : α → Option ρ} (h : gn l n k = some r) :
    ∃ x, (0 ≤ ((n : Nat) : Int) ∧ (l.map enc)[((n : Nat) : Int).toNat]? = some (enc1 x)) ∧ (0 ≤ ((n : Nat) : Int) ∧ ((n : Nat) : Int) < (((l.map enc).length : Nat) : Int)) ∧ (l.map enc)[n]? = some (enc1 x) ∧ k x = some r := by
  obtain ⟨x, h1, h2, h3, h4⟩ := gn_inv enc h
  exact ⟨x, by rw [← he]; exact h1, h2, by rw [← he]; exact h3, h4⟩
theorem app_sE {α : Type} (enc enc1 : α → D) (he : ∀ x, enc x = enc1 x) (h1 : ∀ l : List α, cellsOne (l.map enc)) (old : List α) (x : α) {b : Nat} (h : (old.length + [x].length) * b ≤ 140737488355328) :
    ((old.map enc).length + [enc1 x].length) * b ≤ 140737488355328 ∧ cellsOne [enc1 x] ∧ old.map enc ++ [enc1 x] = (old ++ [x]).map enc :=
  ⟨by simpa using h, by have := h1 [x]; rw [List.map_cons, List.map_nil, he] at this; exact this, by simp [he]⟩
end Go.DL
namespace Go.Proofs.YtimalbkjflfdoaaDoor
open Go.DL
inductive Val where
  | mk (k n : Int) (s : List UInt8) (l : List Val) (ks : List (List UInt8))
namespace Val
def k : Val → Int | .mk k _ _ _ _ => k
def n : Val → Int | .mk _ n _ _ _ => n
def s : Val → List UInt8 | .mk _ _ s _ _ => s
def l : Val → List Val | .mk _ _ _ l _ => l
def ks : Val → List (List UInt8) | .mk _ _ _ _ ks => ks
end Val
mutual
def encVal : Val → D
  | .mk k n s l ks => .agg [.int .i64 k, .int .i64 n, .str s, .sl 5 (encVals l), .sl 1 (ks.map elStr)]
def encVals : List Val → List D
  | [] => []
  | v :: l => encVal v :: encVals l
end
theorem encVals_eq (l : List Val) : encVals l = l.map encVal := by
  induction l with
  | nil => rfl
  | cons v l ih => rw [encVals, ih]; rfl
abbrev ndcVal (v : Val) : D := .agg [.int .i64 v.k, .int .i64 v.n, .str v.s, .sl 5 (v.l.map encVal), .sl 1 (v.ks.map elStr)]
theorem encVal_nd (v : Val) : encVal v = ndcVal v := by
  cases v with
  | mk k n s l ks => rw [encVal, encVals_eq]; rfl
theorem encVal_one (l : List Val) : cellsOne (l.map encVal) := by
  intro d hd c hc; obtain ⟨x, _, rfl⟩ := List.mem_map.1 hd; rw [encVal_nd] at hc; simp [D.cells] at hc; rcases hc with rfl | rfl | rfl | rfl | rfl <;> rfl
end Go.Proofs.YtimalbkjflfdoaaDoor

namespace Go.Proofs.YtimalbkjflfdoaaDoor
open Go.DL
set_option maxRecDepth 100000
set_option maxHeartbeats 4000000
abbrev qVal (x : Val) : List C := [.dat (I x.k), .dat (I x.n), .dat (.str x.s), .dat (.sl 5 (x.l.map encVal)), .dat (.sl 1 (x.ks.map elStr))]
noncomputable def g_codec_empty (v_1 : Val) : Option (Bool) :=
  if (v_1.s == ([] : List UInt8)) = true then (if (((v_1.l.length : Nat) : Int) == 0) = true then (if (v_1.n == 0) = true then (if (v_1.k == 0) = true then (some false) else if (v_1.k == 1) = true then (some (((v_1.ks.length : Nat) : Int) == 0)) else if (v_1.k == 2) = true then (some (((v_1.ks.length : Nat) : Int) == 0)) else if (v_1.k == 3) = true then (some (((v_1.ks.length : Nat) : Int) == 0)) else ck ((v_1.k : Int) = 4) <| some (((v_1.ks.length : Nat) : Int) == ((v_1.l.length : Nat) : Int))) else if (v_1.k == 0) = true then (some false) else if (v_1.k == 1) = true then (some (((v_1.ks.length : Nat) : Int) == 0)) else if (v_1.k == 2) = true then (some false) else if (v_1.k == 3) = true then (some false) else ck ((v_1.k : Int) = 4) <| some false) else if (v_1.n == 0) = true then (if (v_1.k == 0) = true then (some false) else if (v_1.k == 1) = true then (some false) else if (v_1.k == 2) = true then (some false) else if (v_1.k == 3) = true then (some (((v_1.ks.length : Nat) : Int) == 0)) else ck ((v_1.k : Int) = 4) <| some (((v_1.ks.length : Nat) : Int) == ((v_1.l.length : Nat) : Int))) else if (v_1.k == 0) = true then (some false) else if (v_1.k == 1) = true then (some false) else if (v_1.k == 2) = true then (some false) else if (v_1.k == 3) = true then (some false) else ck ((v_1.k : Int) = 4) <| some false) else if (v_1.n == 0) = true then (if (((v_1.l.length : Nat) : Int) == 0) = true then (if (v_1.k == 0) = true then (some false) else if (v_1.k == 1) = true then (some false) else if (v_1.k == 2) = true then (some (((v_1.ks.length : Nat) : Int) == 0)) else if (v_1.k == 3) = true then (some false) else ck ((v_1.k : Int) = 4) <| some false) else if (v_1.k == 0) = true then (some false) else if (v_1.k == 1) = true then (some false) else if (v_1.k == 2) = true then (some false) else if (v_1.k == 3) = true then (some false) else ck ((v_1.k : Int) = 4) <| some false) else if (v_1.k == 0) = true then (some false) else if (v_1.k == 1) = true then (some false) else if (v_1.k == 2) = true then (some false) else if (v_1.k == 3) = true then (some false) else ck ((v_1.k : Int) = 4) <| some false
noncomputable def g_codec_formed_s_j3 (depth_5 : Int) : Option (Int × Bool) :=
  ckI (depth_5 + 1) <| some ((depth_5 + 1), true)
noncomputable def g_codec_formed_s_l4 (v_1 : Val) (rc : (Val) → Option (Int × Bool)) (v : Int × Nat) : Option ((Int × Nat) ⊕ (Int × Bool)) :=
  match v with | (depth_7, v_8) => if (decide (((v_8 : Nat) : Int) < ((v_1.l.length : Nat) : Int))) = true then (gn v_1.l v_8 fun x_12 => bd (rc x_12) fun r_16 => if (!(r_16.2)) = true then (up (some (0, false))) else ckI (((v_8 : Nat) : Int) + 1) <| some (.inl ((if r_16.1 > depth_7 then r_16.1 else depth_7), v_8 + 1))) else up (g_codec_formed_s_j3 depth_7)
noncomputable def g_codec_formed_s_j2 (v_1 : Val) (rc : (Val) → Option (Int × Bool)) : Option (Int × Bool) :=
  if (decide (v_1.k < 3)) = true then (some (0, true)) else loopO (g_codec_formed_s_l4 v_1 rc) (0, 0)
noncomputable def g_codec_formed_s_l5 (v_1 : Val) (rc : (Val) → Option (Int × Bool)) (v : Nat) : Option ((Nat) ⊕ (Int × Bool)) :=
  match v with | i_20 => if (decide (((i_20 : Nat) : Int) < ((v_1.ks.length : Nat) : Int))) = true then (ckI (((i_20 : Nat) : Int) - 1) <| gt v_1.ks (((i_20 : Nat) : Int) - 1) fun x_24 => gn v_1.ks i_20 fun x_28 => if (!(Op.bytesLess x_24 x_28)) = true then (up (some (0, false))) else ckI (((i_20 : Nat) : Int) + 1) <| some (.inl (i_20 + 1))) else up (g_codec_formed_s_j2 v_1 rc)
noncomputable def g_codec_formed_s_j1 (v_1 : Val) (rc : (Val) → Option (Int × Bool)) (v_2 : Bool) : Option (Int × Bool) :=
  if (v_2) = true then (some (0, false)) else loopO (g_codec_formed_s_l5 v_1 rc) 1
noncomputable def g_codec_formed_s (rc : (Val) → Option (Int × Bool)) (v_1 : Val) : Option (Int × Bool) :=
  if (decide (v_1.k < 1)) = true then (g_codec_formed_s_j1 v_1 rc true) else if (decide (v_1.k > 4)) = true then (g_codec_formed_s_j1 v_1 rc true) else bd (g_codec_empty v_1) fun r_36 => g_codec_formed_s_j1 v_1 rc (!(r_36))
noncomputable def g_codec_formed : Nat → (Val) → Option (Int × Bool)
  | 0 => fun _ => none
  | fu + 1 => g_codec_formed_s (g_codec_formed fu)
noncomputable def g_codec_Check (v_1 : Val) : Option (Int) :=
  bd (g_codec_formed 60 v_1) fun r_2 => if (!(r_2.2)) = true then (some 1) else if (decide (r_2.1 > 16)) = true then (some 2) else some 0
noncomputable def g_ref02_increasing_j1 : Option (Bool) :=
  some true
noncomputable def g_ref02_increasing_l2 (l_1 : List ((List UInt8))) (v : Nat) : Option ((Nat) ⊕ (Bool)) :=
  match v with | i_2 => if (decide (((i_2 : Nat) : Int) < ((l_1.length : Nat) : Int))) = true then (ckI (((i_2 : Nat) : Int) - 1) <| gt l_1 (((i_2 : Nat) : Int) - 1) fun x_6 => gn l_1 i_2 fun x_10 => if (!(Op.bytesLess x_6 x_10)) = true then (up (some false)) else ckI (((i_2 : Nat) : Int) + 1) <| some (.inl (i_2 + 1))) else up (g_ref02_increasing_j1)
noncomputable def g_ref02_increasing (l_1 : List ((List UInt8))) : Option (Bool) :=
  loopO (g_ref02_increasing_l2 l_1) 1
noncomputable def g_ref02_Formed_s_j2 (v_1 : Val) : Option (Bool) :=
  if (v_1.n == 0) = true then (some (v_1.s == ([] : List UInt8))) else some false
noncomputable def g_ref02_Formed_s_l3 (v_1 : Val) (rc : (Val) → Option (Bool)) (v : Nat) : Option ((Nat) ⊕ (Bool)) :=
  match v with | i_3 => if (decide (((i_3 : Nat) : Int) < ((v_1.l.length : Nat) : Int))) = true then (gn v_1.l i_3 fun x_6 => bd (rc x_6) fun r_10 => if (!(r_10)) = true then (up (some false)) else ckI (((i_3 : Nat) : Int) + 1) <| some (.inl (i_3 + 1))) else up (g_ref02_Formed_s_j2 v_1)
noncomputable def g_ref02_Formed_s_j1 (v_1 : Val) (rc : (Val) → Option (Bool)) : Option (Bool) :=
  loopO (g_ref02_Formed_s_l3 v_1 rc) 0
noncomputable def g_ref02_Formed_s_j4 (v_1 : Val) (rc : (Val) → Option (Bool)) (v_23 : Bool) : Option (Bool) :=
  if (v_23) = true then (some false) else g_ref02_Formed_s_j1 v_1 rc
noncomputable def g_ref02_Formed_s (rc : (Val) → Option (Bool)) (v_1 : Val) : Option (Bool) :=
  if (v_1.k == 1) = true then (if (v_1.s == ([] : List UInt8)) = true then (if (((v_1.l.length : Nat) : Int) == 0) = true then (some (((v_1.ks.length : Nat) : Int) == 0)) else some false) else some false) else if (v_1.k == 2) = true then (if (v_1.n == 0) = true then (if (((v_1.l.length : Nat) : Int) == 0) = true then (some (((v_1.ks.length : Nat) : Int) == 0)) else some false) else some false) else if (v_1.k == 3) = true then (if (decide (((v_1.ks.length : Nat) : Int) > 0)) = true then (some false) else g_ref02_Formed_s_j1 v_1 rc) else if (v_1.k == 4) = true then (if (((v_1.ks.length : Nat) : Int) != ((v_1.l.length : Nat) : Int)) = true then (g_ref02_Formed_s_j4 v_1 rc true) else bd (g_ref02_increasing v_1.ks) fun r_26 => g_ref02_Formed_s_j4 v_1 rc (!(r_26))) else some false
noncomputable def g_ref02_Formed : Nat → (Val) → Option (Bool)
  | 0 => fun _ => none
  | fu + 1 => g_ref02_Formed_s (g_ref02_Formed fu)
noncomputable def g_ref02_Depth_s_j2 (n_4 : Int) : Option (Int) :=
  ckI (n_4 + 1) <| some (n_4 + 1)
noncomputable def g_ref02_Depth_s_l3 (v_1 : Val) (rc : (Val) → Option (Int)) (v : Int × Nat) : Option ((Int × Nat) ⊕ (Int)) :=
  match v with | (n_6, i_7) => if (decide (((i_7 : Nat) : Int) < ((v_1.l.length : Nat) : Int))) = true then (gn v_1.l i_7 fun x_11 => bd (rc x_11) fun r_15 => ckI (((i_7 : Nat) : Int) + 1) <| some (.inl ((if r_15 > n_6 then r_15 else n_6), i_7 + 1))) else up (g_ref02_Depth_s_j2 n_6)
noncomputable def g_ref02_Depth_s_j1 (v_1 : Val) (rc : (Val) → Option (Int)) (v_2 : Bool) : Option (Int) :=
  if (v_2) = true then (some 0) else loopO (g_ref02_Depth_s_l3 v_1 rc) (0, 0)
noncomputable def g_ref02_Depth_s (rc : (Val) → Option (Int)) (v_1 : Val) : Option (Int) :=
  if (v_1.k == 1) = true then (g_ref02_Depth_s_j1 v_1 rc true) else g_ref02_Depth_s_j1 v_1 rc (v_1.k == 2)
noncomputable def g_ref02_Depth : Nat → (Val) → Option (Int)
  | 0 => fun _ => none
  | fu + 1 => g_ref02_Depth_s (g_ref02_Depth fu)
noncomputable def g_ref02_Check (v_1 : Val) : Option (Int) :=
  bd (g_ref02_Formed 60 v_1) fun r_2 => if (!(r_2)) = true then (some 1) else bd (g_ref02_Depth 60 v_1) fun r_5 => if (decide (r_5 > 16)) = true then (some 2) else some 0
noncomputable def g_slices_Equal_Lstring_string_j1 : Option (Bool) :=
  some true
noncomputable def g_slices_Equal_Lstring_string_l2 (s1_1 : List ((List UInt8))) (s2_2 : List ((List UInt8))) (v : Nat) : Option ((Nat) ⊕ (Bool)) :=
  match v with | v_4 => if (decide (((v_4 : Nat) : Int) < ((s1_1.length : Nat) : Int))) = true then (gn s1_1 v_4 fun x_7 => gn s2_2 v_4 fun x_11 => if (!(x_7 == x_11)) = true then (up (some false)) else ckI (((v_4 : Nat) : Int) + 1) <| some (.inl (v_4 + 1))) else up (g_slices_Equal_Lstring_string_j1)
noncomputable def g_slices_Equal_Lstring_string (s1_1 : List ((List UInt8))) (s2_2 : List ((List UInt8))) : Option (Bool) :=
  if (((s1_1.length : Nat) : Int) != ((s2_2.length : Nat) : Int)) = true then (some false) else loopO (g_slices_Equal_Lstring_string_l2 s1_1 s2_2) 0
noncomputable def g_codec_Same_s_j1 (r_6 : Bool) (v_9 : Bool) : Option (Bool) :=
  some (v_9)
noncomputable def g_codec_Same_s_j2 (r_6 : Bool) : Option (Bool) :=
  g_codec_Same_s_j1 r_6 true
noncomputable def g_codec_Same_s_l3 (a_1 : Val) (b_2 : Val) (rc : (Val) → (Val) → Option (Bool)) (r_6 : Bool) (v : Nat) : Option ((Nat) ⊕ (Bool)) :=
  match v with | v_11 => if (decide (((v_11 : Nat) : Int) < ((a_1.l.length : Nat) : Int))) = true then (gn a_1.l v_11 fun x_14 => gn b_2.l v_11 fun x_18 => bd (rc x_14 x_18) fun r_22 => if (!(r_22)) = true then (up (g_codec_Same_s_j1 r_6 false)) else ckI (((v_11 : Nat) : Int) + 1) <| some (.inl (v_11 + 1))) else up (g_codec_Same_s_j2 r_6)
noncomputable def g_codec_Same_s (rc : (Val) → (Val) → Option (Bool)) (a_1 : Val) (b_2 : Val) : Option (Bool) :=
  if (a_1.k == b_2.k) = true then (if (a_1.n == b_2.n) = true then (if (a_1.s == b_2.s) = true then (bd (g_slices_Equal_Lstring_string a_1.ks b_2.ks) fun r_6 => if (r_6) = true then (if (((a_1.l.length : Nat) : Int) != ((b_2.l.length : Nat) : Int)) = true then (g_codec_Same_s_j1 r_6 false) else loopO (g_codec_Same_s_l3 a_1 b_2 rc r_6) 0) else some false) else some false) else some false) else some false
noncomputable def g_codec_Same : Nat → (Val) → (Val) → Option (Bool)
  | 0 => fun _ _ => none
  | fu + 1 => g_codec_Same_s (g_codec_Same fu)
noncomputable def g_ref02_Same_s_j3 : Option (Bool) :=
  some true
noncomputable def g_ref02_Same_s_l4 (a_1 : Val) (b_2 : Val) (rc : (Val) → (Val) → Option (Bool)) (v : Nat) : Option ((Nat) ⊕ (Bool)) :=
  match v with | i_5 => if (decide (((i_5 : Nat) : Int) < ((a_1.l.length : Nat) : Int))) = true then (gn a_1.l i_5 fun x_8 => gn b_2.l i_5 fun x_12 => bd (rc x_8 x_12) fun r_16 => if (!(r_16)) = true then (up (some false)) else ckI (((i_5 : Nat) : Int) + 1) <| some (.inl (i_5 + 1))) else up (g_ref02_Same_s_j3)
noncomputable def g_ref02_Same_s_j2 (a_1 : Val) (b_2 : Val) (rc : (Val) → (Val) → Option (Bool)) : Option (Bool) :=
  loopO (g_ref02_Same_s_l4 a_1 b_2 rc) 0
noncomputable def g_ref02_Same_s_l5 (a_1 : Val) (b_2 : Val) (rc : (Val) → (Val) → Option (Bool)) (v : Nat) : Option ((Nat) ⊕ (Bool)) :=
  match v with | i_20 => if (decide (((i_20 : Nat) : Int) < ((a_1.ks.length : Nat) : Int))) = true then (gn a_1.ks i_20 fun x_23 => gn b_2.ks i_20 fun x_27 => if (!(x_23 == x_27)) = true then (up (some false)) else ckI (((i_20 : Nat) : Int) + 1) <| some (.inl (i_20 + 1))) else up (g_ref02_Same_s_j2 a_1 b_2 rc)
noncomputable def g_ref02_Same_s_j1 (a_1 : Val) (b_2 : Val) (rc : (Val) → (Val) → Option (Bool)) (v_3 : Bool) : Option (Bool) :=
  if (v_3) = true then (some false) else loopO (g_ref02_Same_s_l5 a_1 b_2 rc) 0
noncomputable def g_ref02_Same_s (rc : (Val) → (Val) → Option (Bool)) (a_1 : Val) (b_2 : Val) : Option (Bool) :=
  if (a_1.k != b_2.k) = true then (g_ref02_Same_s_j1 a_1 b_2 rc true) else if (a_1.n != b_2.n) = true then (g_ref02_Same_s_j1 a_1 b_2 rc true) else if (!(a_1.s == b_2.s)) = true then (g_ref02_Same_s_j1 a_1 b_2 rc true) else if (((a_1.l.length : Nat) : Int) != ((b_2.l.length : Nat) : Int)) = true then (g_ref02_Same_s_j1 a_1 b_2 rc true) else g_ref02_Same_s_j1 a_1 b_2 rc (((a_1.ks.length : Nat) : Int) != ((b_2.ks.length : Nat) : Int))
noncomputable def g_ref02_Same : Nat → (Val) → (Val) → Option (Bool)
  | 0 => fun _ _ => none
  | fu + 1 => g_ref02_Same_s (g_ref02_Same fu)
noncomputable def g_slices_Index_Lstring_string_j1 : Option (Int) :=
  some (-1)
noncomputable def g_slices_Index_Lstring_string_l2 (s_1 : List ((List UInt8))) (v_2 : List UInt8) (v : Nat) : Option ((Nat) ⊕ (Int)) :=
  match v with | v_3 => if (decide (((v_3 : Nat) : Int) < ((s_1.length : Nat) : Int))) = true then (gn s_1 v_3 fun x_6 => if (v_2 == x_6) = true then (up (some ((v_3 : Nat) : Int))) else ckI (((v_3 : Nat) : Int) + 1) <| some (.inl (v_3 + 1))) else up (g_slices_Index_Lstring_string_j1)
noncomputable def g_slices_Index_Lstring_string (s_1 : List ((List UInt8))) (v_2 : List UInt8) : Option (Int) :=
  loopO (g_slices_Index_Lstring_string_l2 s_1 v_2) 0
noncomputable def g_codec_Get_j1 (v_1 : Val) (r_3 : Int) (v_5 : Bool) : Option (Val × Bool) :=
  if (v_5) = true then (some ((⟨0, 0, ([] : List UInt8), ([] : List Val), ([] : List (List UInt8))⟩ : Val), false)) else gt v_1.l r_3 fun x_7 => some (x_7, true)
noncomputable def g_codec_Get (v_1 : Val) (key_2 : List UInt8) : Option (Val × Bool) :=
  bd (g_slices_Index_Lstring_string v_1.ks key_2) fun r_3 => if (v_1.k != 4) = true then (g_codec_Get_j1 v_1 r_3 true) else if (decide (r_3 < 0)) = true then (g_codec_Get_j1 v_1 r_3 true) else g_codec_Get_j1 v_1 r_3 (decide (r_3 ≥ ((v_1.l.length : Nat) : Int)))
noncomputable def g_ref02_List (l_1 : List Val) : Option (Val) :=
  some (⟨3, 0, ([] : List UInt8), l_1, ([] : List (List UInt8))⟩ : Val)
noncomputable def g_ref02_Int (n_1 : Int) : Option (Val) :=
  some (⟨1, n_1, ([] : List UInt8), ([] : List Val), ([] : List (List UInt8))⟩ : Val)
noncomputable def g_ref02_Text (s_1 : List UInt8) : Option (Val) :=
  some (⟨2, 0, s_1, ([] : List Val), ([] : List (List UInt8))⟩ : Val)
noncomputable def g_ref02_Digits_s (rc : (Int) → Option (List UInt8)) (n_1 : Int) : Option (List UInt8) :=
  sb ([48, 49, 50, 51, 52, 53, 54, 55, 56, 57] : List UInt8) (some (n_1.tmod 10)) (some (IntKind.u64.wrap ((n_1.tmod 10) + 1))) fun s_2 => if (decide (n_1 < 10)) = true then (some s_2) else bd (rc (IntKind.u64.wrap (n_1.tdiv 10))) fun r_5 => ck (((r_5.length + s_2.length : Nat) : Int) ≤ 9223372036854775807) <| some (r_5 ++ s_2)
noncomputable def g_ref02_Digits : Nat → (Int) → Option (List UInt8)
  | 0 => fun _ => none
  | fu + 1 => g_ref02_Digits_s (g_ref02_Digits fu)
noncomputable def g_ref02_Decimal (n_1 : Int) : Option (List UInt8) :=
  if (decide (n_1 < 0)) = true then (ckI (n_1 + 1) <| ckI (0 - (n_1 + 1)) <| bd (g_ref02_Digits 60 (IntKind.u64.wrap ((IntKind.u64.wrap (0 - (n_1 + 1))) + 1))) fun r_5 => ck (((([45] : List UInt8).length + r_5.length : Nat) : Int) ≤ 9223372036854775807) <| some (([45] : List UInt8) ++ r_5)) else bd (g_ref02_Digits 60 (IntKind.u64.wrap n_1)) fun r_8 => some r_8
noncomputable def g_ref02_text (s_1 : List UInt8) : Option (List UInt8) :=
  bd (g_ref02_Digits 60 (IntKind.u64.wrap ((s_1.length : Nat) : Int))) fun r_2 => ck (((r_2.length + ([58] : List UInt8).length : Nat) : Int) ≤ 9223372036854775807) <| ck ((r_2 ++ ([58] : List UInt8)).length ≤ 140737488355328) <| ck ((r_2 ++ ([58] : List UInt8)).length + s_1.length ≤ 140737488355328) <| some ((r_2 ++ ([58] : List UInt8)) ++ s_1)
noncomputable def g_ref02_encode_s_j2 (l_12 : List UInt8) : Option (List UInt8) :=
  ck (l_12.length + ([101] : List UInt8).length ≤ 140737488355328) <| some (l_12 ++ ([101] : List UInt8))
noncomputable def g_ref02_encode_s_j4 (v_1 : Val) (i_14 : Nat) (rc : (Val) → Option (List UInt8)) (l_19 : List UInt8) : Option ((Nat × (List UInt8)) ⊕ (List UInt8)) :=
  gn v_1.l i_14 fun x_20 => bd (rc x_20) fun r_24 => ck (l_19.length + r_24.length ≤ 140737488355328) <| ckI (((i_14 : Nat) : Int) + 1) <| some (.inl (i_14 + 1, (l_19 ++ r_24)))
noncomputable def g_ref02_encode_s_l3 (v_1 : Val) (rc : (Val) → Option (List UInt8)) (v : Nat × (List UInt8)) : Option ((Nat × (List UInt8)) ⊕ (List UInt8)) :=
  match v with | (i_14, l_15) => if (decide (((i_14 : Nat) : Int) < ((v_1.l.length : Nat) : Int))) = true then (if (v_1.k == 4) = true then (gn v_1.ks i_14 fun x_29 => bd (g_ref02_text x_29) fun r_33 => ck (l_15.length + r_33.length ≤ 140737488355328) <| g_ref02_encode_s_j4 v_1 i_14 rc (l_15 ++ r_33)) else g_ref02_encode_s_j4 v_1 i_14 rc l_15) else up (g_ref02_encode_s_j2 l_15)
noncomputable def g_ref02_encode_s_j1 (v_1 : Val) (rc : (Val) → Option (List UInt8)) (l_11 : List UInt8) : Option (List UInt8) :=
  loopO (g_ref02_encode_s_l3 v_1 rc) (0, l_11)
noncomputable def g_ref02_encode_s (rc : (Val) → Option (List UInt8)) (v_1 : Val) : Option (List UInt8) :=
  if (v_1.k == 1) = true then (bd (g_ref02_Decimal v_1.n) fun r_3 => ck (((([105] : List UInt8).length + r_3.length : Nat) : Int) ≤ 9223372036854775807) <| ck ((((([105] : List UInt8) ++ r_3).length + ([101] : List UInt8).length : Nat) : Int) ≤ 9223372036854775807) <| ck (((([105] : List UInt8) ++ r_3) ++ ([101] : List UInt8)).length ≤ 140737488355328) <| some ((([105] : List UInt8) ++ r_3) ++ ([101] : List UInt8))) else if (v_1.k == 2) = true then (bd (g_ref02_text v_1.s) fun r_9 => some r_9) else if (v_1.k == 4) = true then (g_ref02_encode_s_j1 v_1 rc ([100] : List UInt8)) else g_ref02_encode_s_j1 v_1 rc ([108] : List UInt8)
noncomputable def g_ref02_encode : Nat → (Val) → Option (List UInt8)
  | 0 => fun _ => none
  | fu + 1 => g_ref02_encode_s (g_ref02_encode fu)
end Go.Proofs.YtimalbkjflfdoaaDoor
