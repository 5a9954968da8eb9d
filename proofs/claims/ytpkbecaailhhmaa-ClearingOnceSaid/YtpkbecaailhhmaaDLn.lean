/-
  The data-level framework, part n: from a triple over a body to what a call returns; forgetting; freezing. Generic in the program; no condition.
-/
import Derived.Test.YtpkbecaailhhmaaDLm
set_option linter.unusedVariables false
set_option linter.unusedSimpArgs false
namespace Go.DL
open Go.RowKit

/-- The results, as they stand at a function's end. -/
def dres (P : Program) (s : DS) : List ResultVar → Option (List LV)
  | [] => some []
  | .tmp t :: r => (dres P s r).map (s.ev (.tmp t) :: ·)
  | .cell a t :: r => match s.ev (.tmp a) with
    | .one (.ref id off) => match s.bx.lookup id with
      | some (.var cs) => match loadC P t cs off, dres P s r with
        | some l, some ls => some (l :: ls)
        | _, _ => none
      | _ => none
    | _ => none

def C.fits (bx : List (Nat × Box)) : C → D → Prop
  | .dat d', d => d' = d ∨ (d' = .con (.slice none 0 0) ∧ ∃ sz, d = .sl sz [])
  | .own id, d => match bx.lookup id with
    | some (.row _ sz es) => d = .sl sz es
    | _ => False
  | .fn f caps, d => match capsD caps with
    | some ds => d = .fn f ds
    | none => False
  | _, _ => False

def cellsFit (bx : List (Nat × Box)) : List C → List D → Prop
  | [], [] => True
  | c :: cs, d :: ds => c.fits bx d ∧ cellsFit bx cs ds
  | _, _ => False

def LV.fits (bx : List (Nat × Box)) : LV → D → Prop
  | .one c, d => c.fits bx d
  | .agg cs, .agg ds => cellsFit bx cs ds
  | _, _ => False

def listFit (bx : List (Nat × Box)) : List LV → List D → Prop
  | [], [] => True
  | l :: ls, d :: ds => l.fits bx d ∧ listFit bx ls ds
  | _, _ => False

def resFit (bx : List (Nat × Box)) (ls : List LV) (d : D) : Prop :=
  match ls, d with
  | [l], d => l.fits bx d
  | ls, .tup ds => listFit bx ls ds
  | _, _ => False

def retPost (P : Program) (fn : Func) (d : D) : DX → DS → Prop
  | .normal, s => ∃ ls, dres P s fn.results.toList = some ls ∧ resFit s.bx ls d
  | .ret, s => ∃ ls, dres P s fn.results.toList = some ls ∧ resFit s.bx ls d
  | _, _ => False

section
variable {P : Program} {w : World} {A : Nat → Prop} {M : BMap}

theorem C.fits_rel {E : Env} {bx : List (Nat × Box)} {c : C} {d : D} {v : Value} (hbx : Boxes E M w bx) (h : c.fits bx d) (hc : C.rel w (Av E.A0 M bx) M c v) : RelD w E.A0 d v := by
  have hsub : Keeps w (Av E.A0 M bx) w E.A0 := Keeps.sub fun b hb => .inl hb
  cases c with
  | dat d' =>
    rcases h with h | ⟨h1, sz, h2⟩
    · subst h
      exact RelD.mono hsub hc
    · subst h1 h2
      simp only [C.rel] at hc
      cases hc
      exact .sl0 _ _ _ (fun _ => rfl)
  | own id =>
    simp only [C.fits] at h
    split at h
    · rename_i e sz es hl
      subst h
      simp only [C.rel] at hc
      subst hc
      have hm := lookup_mem hl
      refine row_rel E.A0 (fun b hb => ⟨.inl hb, fun hob => ?_⟩) (hbx.ok id _ hm)
      have h1 := (hbx.new _ hm b (by simpa [boxBlk] using hob)).1
      have h2 := hbx.foreign b hb
      rcases h1 with h1 | h1
      · exact h2.2 h1
      · omega
    · cases h
  | fn f caps =>
    simp only [C.fits] at h
    split at h
    · rename_i ds hds
      subst h
      have : RelD w (Av E.A0 M bx) (.fn f ds) v := (C.toD_rel (bx := bx) (c := .fn f caps) (by simp [C.toD, hds]) hc hbx.ok).1 rfl
      exact this.mono hsub
    · cases h
  | ref id off => cases h
  | rref id i off => cases h
  | junk => cases h

theorem cellsFit_rel {E : Env} {bx : List (Nat × Box)} (hbx : Boxes E M w bx) : ∀ (cs : List C) (ds : List D), cellsFit bx cs ds → ∀ (f : Nat → Option Value), (∀ (j : Nat) (c : C), cs[j]? = some c → ∃ u, f j = some u ∧ C.rel w (Av E.A0 M bx) M c u) →
    ds.length = cs.length ∧ ∀ (j : Nat) (d : D), ds[j]? = some d → ∃ u, f j = some u ∧ RelD w E.A0 d u
  | [], [], _, f, _ => by simp
  | [], _ :: _, h, _, _ => h.elim
  | _ :: _, [], h, _, _ => h.elim
  | c :: cs, d :: ds, h, f, hf => by
    obtain ⟨h3, h4⟩ := cellsFit_rel hbx cs ds h.2 (fun j => f (j + 1)) (fun j c hc => hf (j + 1) c (by simpa using hc))
    refine ⟨by simp [h3], fun j e he => ?_⟩
    cases j with
    | zero =>
      simp at he; subst he
      obtain ⟨u, hu, hr⟩ := hf 0 c rfl
      exact ⟨u, hu, C.fits_rel hbx h.1 hr⟩
    | succ j => exact h4 j e (by simpa using he)

theorem LV.fits_rel {E : Env} {bx : List (Nat × Box)} {l : LV} {d : D} {v : Value} (hbx : Boxes E M w bx) (h : l.fits bx d) (hl : LV.rel w (Av E.A0 M bx) M l v) : RelD w E.A0 d v := by
  cases l with
  | one c => exact C.fits_rel hbx h hl
  | agg cs =>
    cases d <;> simp only [LV.fits] at h
    rename_i ds
    obtain ⟨arr, rfl, h1, h2⟩ := hl
    obtain ⟨h3, h4⟩ := cellsFit_rel hbx cs ds h (fun j => arr[j]?) h2
    refine .agg ds arr (by omega) (fun j => arr.getD j undef) (fun j c hj => ?_) (fun j c hj => ?_)
    · obtain ⟨u, hu, _⟩ := h4 j c hj; simp [hu]
    · obtain ⟨u, hu, hr⟩ := h4 j c hj; simpa [hu] using hr
  | tup ps => cases d <;> simp [LV.fits] at h

theorem listFit_rel {E : Env} {bx : List (Nat × Box)} (hbx : Boxes E M w bx) : ∀ (ls : List LV) (ds : List D), listFit bx ls ds → ∀ (f : Nat → Option Value), (∀ (j : Nat) (l : LV), ls[j]? = some l → ∃ u, f j = some u ∧ LV.rel w (Av E.A0 M bx) M l u) →
    ds.length = ls.length ∧ ∀ (j : Nat) (d : D), ds[j]? = some d → ∃ u, f j = some u ∧ RelD w E.A0 d u
  | [], [], _, f, _ => by simp
  | [], _ :: _, h, _, _ => h.elim
  | _ :: _, [], h, _, _ => h.elim
  | c :: cs, d :: ds, h, f, hf => by
    obtain ⟨h3, h4⟩ := listFit_rel hbx cs ds h.2 (fun j => f (j + 1)) (fun j c hc => hf (j + 1) c (by simpa using hc))
    refine ⟨by simp [h3], fun j e he => ?_⟩
    cases j with
    | zero =>
      simp at he; subst he
      obtain ⟨u, hu, hr⟩ := hf 0 c rfl
      exact ⟨u, hu, LV.fits_rel hbx h.1 hr⟩
    | succ j => exact h4 j e (by simpa using he)

def resOne (tmps : Array Value) : ResultVar → Sem Value
  | .tmp t => pure (tmps.getD t undef)
  | .cell a t => do loadVar t (← asAddr (tmps.getD a undef))

theorem dres_run {E : Env} {a : Act} {s : DS} (hst : St E M w a s) : ∀ (rs : List ResultVar) (ls : List LV), dres P s rs = some ls →
    ∃ vs : List Value, (rs.mapM (resOne a.tmps)).run P w = .ok vs w ∧ vs.length = ls.length ∧ ∀ (j : Nat) (l : LV), ls[j]? = some l → ∃ u, vs[j]? = some u ∧ LV.rel w (Av E.A0 M s.bx) M l u
  | [], ls, h => by simp [dres] at h; subst h; exact ⟨[], by simp, rfl, by simp⟩
  | .tmp t :: r, ls, h => by
    simp only [dres, Option.map_eq_some_iff] at h
    obtain ⟨ls', h1, rfl⟩ := h
    obtain ⟨vs, h2, h3, h4⟩ := dres_run hst r ls' h1
    refine ⟨a.tmps.getD t undef :: vs, by simp [List.mapM_cons, resOne, h2], by simp [h3], fun j l hj => ?_⟩
    cases j with
    | zero => simp at hj; subst hj; exact ⟨_, rfl, ev_rel hst.size hst.slots (.tmp t)⟩
    | succ j => exact h4 j l (by simpa using hj)
  | .cell x t :: r, ls, h => by
    unfold dres at h
    split at h
    · rename_i id off hx
      split at h
      · rename_i cs hl
        split at h
        · rename_i l ls' h1 h2
          cases h
          obtain ⟨vs, h3, h4, h5⟩ := dres_run hst r ls' h2
          have hxr := ev_rel hst.size hst.slots (.tmp x)
          rw [hx] at hxr
          simp only [LV.rel, C.rel, Act.eval] at hxr
          obtain ⟨arr, T, hg, hc⟩ := hst.boxes.ok id _ (lookup_mem hl)
          obtain ⟨v, hv, hr⟩ := loadC_sound (P := P) (w := w) (A := Av E.A0 M s.bx) (M := M) (b := M.blk id) (o := 0) h1 (fun j c hj => by
            obtain ⟨v, hv, hr⟩ := hc.2 j c hj
            exact ⟨v, by rw [cell_of_row w _ _ arr T (0, 0) hg, Nat.zero_add]; exact hv, hr⟩)
          have hone : (resOne a.tmps (.cell x t)).run P w = .ok v w := by
            simp only [Instr.loadAt, Instr.sureAddr, Sem.run_bind, Sem.run_pure, Result.andThen_ok, Nat.zero_add] at hv
            simp only [resOne, hxr, asAddr, Sem.run_bind, Sem.run_pure, Result.andThen_ok, hv]
          refine ⟨v :: vs, by simp [List.mapM_cons, hone, h3], by simp [h4], fun j l' hj => ?_⟩
          cases j with
          | zero => simp at hj; subst hj; exact ⟨_, rfl, hr⟩
          | succ j => exact h5 j l' (by simpa using hj)
        · cases h
      · cases h
    · cases h

theorem results_run (fn : Func) (tmps : Array Value) (vs : List Value) (h : (fn.results.toList.mapM (resOne tmps)).run P w = .ok vs w) : (results fn tmps).run P w = .ok (if h : vs.toArray.size = 1 then vs.toArray[0] else .tuple vs.toArray) w := by
  have e : results fn tmps = (do let vs ← fn.results.mapM (resOne tmps); pure (if h : vs.size = 1 then vs[0] else .tuple vs)) := by
    unfold results
    rfl
  rw [e, Sem.run_bind, Array.mapM_eq_mapM_toList, Sem.run_map, h]
  rfl

/-- WHAT A CALL RETURNS, FROM ITS BODY. -/
theorem Ret.of_T {f : FuncId} {fn : Func} {c : Code} {ds : List D} {d : D} (hf : P.funcs[f]? = some fn) (hname : (fn.name == "runtime.NumGoroutine") = false) (hb : fn.body = some c)
    (h : T P 0 c (retPost P fn d) ⟨ds.map ofD ++ List.replicate (fn.ntmps - ds.length) (.one .junk), []⟩) : Ret P f ds d := by
  refine ⟨⟨fn, hf, hname, by rw [hb]; rfl⟩, fun w A vs hA hsz hvs => ?_⟩
  refine calls_of_wp hf hb ?_
  let E : Env := ⟨w, A, 0, ⟨fun _ => 0, fun _ => undef, fun _ => 0⟩, fun _ => False, fun _ => False⟩
  have hst : St E E.M0 w { tmps := vs ++ Array.replicate (fn.ntmps - vs.size) undef, defers := [] } ⟨ds.map ofD ++ List.replicate (fn.ntmps - ds.length) (.one .junk), []⟩ := by
    refine ⟨rfl, by simp [hsz], fun t l hl => ?_, ⟨by simp, by simp, by simp, by simp, fun b hb => ⟨hA b hb, fun x => x⟩, Fr.refl _ _, by simp⟩⟩
    rw [List.getElem?_append] at hl
    split at hl
    · rename_i hlt
      simp only [List.getElem?_map, Option.map_eq_some_iff] at hl
      obtain ⟨d', hd', rfl⟩ := hl
      obtain ⟨u, hu, hr⟩ := hvs t d' hd'
      have hlt' : t < vs.size := by rw [hsz]; simpa using hlt
      have : (vs ++ Array.replicate (fn.ntmps - vs.size) undef).getD t undef = u := by
        rw [Array.getD_eq_getD_getElem?, Array.getElem?_append_left hlt', hu]; rfl
      rw [this]
      refine ofD_rel (hr.mono (Keeps.sub fun b hb => ?_))
      rcases hb with hb | ⟨p, hp, _⟩
      · exact hb
      · cases hp
    · rw [List.getElem?_replicate] at hl
      split at hl
      · cases hl; trivial
      · cases hl
  refine wp_mono (h E E.M0 w _ rfl hst) ?_
  rintro e a' w' ⟨x, s', M', hx, hq, hst'⟩
  have key : (∃ ls, dres P s' fn.results.toList = some ls ∧ resFit s'.bx ls d) → ∃ v, (results fn a'.tmps).run P w' = .ok v w' ∧ ∃ u, Ending.returned v = .returned u ∧ Below w.heap.size w w' ∧ RelD w' A d u := by
    rintro ⟨ls, h1, h2⟩
    obtain ⟨vs', h3, h4, h5⟩ := dres_run (P := P) hst' _ ls h1
    refine ⟨_, results_run fn a'.tmps vs' h3, _, rfl, hst'.boxes.frame.toBelow, ?_⟩
    unfold resFit at h2
    split at h2
    · rename_i l
      obtain ⟨u, hu, hr⟩ := h5 0 l rfl
      have hl1 : vs'.length = 1 := by rw [h4]; rfl
      obtain ⟨x, rfl⟩ := List.length_eq_one_iff.1 hl1
      simp at hu
      subst hu
      simpa using LV.fits_rel hst'.boxes h2 hr
    · rename_i ds' hne
      obtain ⟨h6, h7⟩ := listFit_rel hst'.boxes ls ds' h2 (fun j => vs'[j]?) h5
      have hne1 : vs'.toArray.size ≠ 1 := by
        intro he
        have : ls.length = 1 := by rw [← h4]; simpa using he
        obtain ⟨l, rfl⟩ := List.length_eq_one_iff.1 this
        exact hne l rfl
      rw [dif_neg hne1]
      refine .tup ds' vs'.toArray (by simp; omega) (fun j => vs'.getD j undef) (fun j c hj => ?_) (fun j c hj => ?_)
      · obtain ⟨u, hu, _⟩ := h7 j c hj
        simp [List.getD, hu]
      · obtain ⟨u, hu, hr⟩ := h7 j c hj
        simpa [List.getD, hu] using hr
    · cases h2
  cases x with
  | normal =>
    cases e <;> simp only [XRel] at hx
    obtain ⟨v, hv, u, hu, hr⟩ := key hq
    exact ⟨hst'.defers, v, hv, u, hu, hr⟩
  | ret =>
    cases e <;> simp only [XRel] at hx
    obtain ⟨v, hv, u, hu, hr⟩ := key hq
    exact ⟨hst'.defers, v, hv, u, hu, hr⟩
  | exit id => exact hq.elim
  | panic d => exact hq.elim

/-! ### forgetting slots -/
def forgetL : List LV → List Bool → List LV
  | [], _ => []
  | l :: ls, b :: bs => (match b with | true => l | false => .one .junk) :: forgetL ls bs
  | l :: ls, [] => l :: forgetL ls []

theorem forgetL_get : ∀ (ls : List LV) (bs : List Bool) (t : Nat) (l : LV), (forgetL ls bs)[t]? = some l → l = .one .junk ∨ ls[t]? = some l
  | [], _, t, l, h => by simp [forgetL] at h
  | x :: ls, b :: bs, t, l, h => by
    cases t with
    | zero =>
      simp only [forgetL, List.getElem?_cons_zero, Option.some.injEq] at h
      cases b with
      | true => exact .inr (by simpa using h)
      | false => exact .inl h.symm
    | succ t => simpa using forgetL_get ls bs t l (by simpa [forgetL] using h)
  | x :: ls, [], t, l, h => by
    cases t with
    | zero => exact .inr (by simpa [forgetL] using h)
    | succ t => simpa using forgetL_get ls [] t l (by simpa [forgetL] using h)

theorem forgetL_length : ∀ (ls : List LV) (bs : List Bool), (forgetL ls bs).length = ls.length
  | [], _ => rfl
  | _ :: ls, _ :: bs => by simp [forgetL, forgetL_length ls bs]
  | _ :: ls, [] => by simp [forgetL, forgetL_length ls []]

/-- Slots where the mask says 'false' are forgotten. -/
theorem DS.le_forget (s : DS) (bs : List Bool) : s.Le { s with sl := forgetL s.sl bs } := by
  intro E M w a h
  refine ⟨M, h.defers, by rw [h.size]; exact (forgetL_length _ _).symm, fun t l hl => ?_, h.boxes⟩
  rcases forgetL_get _ _ _ _ hl with rfl | hl'
  · trivial
  · exact h.slots t l hl'

/-- A box, and all that names it, is forgotten. -/
theorem DS.le_drop (s : DS) (id : Nat) : s.Le (s.drop id) := by
  intro E M w a h
  refine ⟨M.upd id 0 undef 0, (h.toA.drop id 0 undef 0).toSt fun b hb => Av_drop hb⟩
end
end Go.DL
