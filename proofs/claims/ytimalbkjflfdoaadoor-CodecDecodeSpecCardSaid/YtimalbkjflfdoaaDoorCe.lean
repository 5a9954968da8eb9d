/-
  Texts that belong together, one behind the other; what each of them proves, and under which conditions, its own heading says.
-/
import Derived.RecoverIn
import Derived.RangeFuncLeaves
import Derived.Test.YtimalbkjflfdoaaDoorRows
import Derived.Test.YtimalbkjflfdoaaDoorCd
set_option linter.unusedVariables false
set_option linter.unusedSimpArgs false
namespace Go.DL
open Go.RowKit
section
variable {P : Program} {w : World} {M : BMap}
theorem Boxes.perm {E : Env} {l l' : List (Nat × Box)} (hp : l.Perm l') (h : Boxes E M w l) : Boxes E M w l' := by
  have hav : ∀ b, Av E.A0 M l' b → Av E.A0 M l b := fun b hb => hb.elim .inl fun ⟨p, h1, h2⟩ => .inr ⟨p, hp.mem_iff.2 h1, h2⟩
  exact {
    ok := fun id b hb => (h.ok id b (hp.mem_iff.2 hb)).mono (Keeps.sub hav) (fun _ _ => rfl)
    ids := (hp.map _).nodup_iff.1 h.ids
    blks := (hp.filterMap _).nodup_iff.1 h.blks
    new := fun p h1 => h.new p (hp.mem_iff.2 h1)
    foreign := h.foreign
    frame := h.frame
    old := fun p h1 => h.old p (hp.mem_iff.2 h1) }
theorem boxBlk_updN {n k : Nat} {rv : Value} {sz : Nat} {p : Nat × Box} (h : p.1 ≠ n) : boxBlk (M.upd n k rv sz) p = boxBlk M p := by
  obtain ⟨i, b⟩ := p
  simp only at h
  cases b <;> simp [boxBlk, BMap.upd, h]
theorem drop_free_bx {s : DS} {n : Nat} (h : s.bx.map (fun p => (p.1, p.2.scrub n)) = s.bx) (hlt : (s.bx.all fun p => Nat.blt p.1 n) = true) : (s.drop n).bx = s.bx := by
  simp only [DS.drop]
  rw [List.filter_eq_self.2 (fun p hp => by
    have := List.all_eq_true.1 hlt p hp
    simp only [Nat.blt_eq] at this
    simp; omega)]
  exact h
theorem CT.nil {f : FuncId} {n : Nat} {ls : List LV} {bx : List (Nat × Box)} {R : CO → Prop} (e : TypeId) (sz : Nat) (h : CT P f (n + 1) (.one (.own n) :: ls) (bx ++ [(n, .row e sz [])]) R)
    (hfree : ls.map (LV.scrub n) = ls) (hfb : bx.map (fun p => (p.1, p.2.scrub n)) = bx) (hlt : (bx.all fun p => Nat.blt p.1 n) = true) : CT P f n (.one (.dat (.con (.slice none 0 0))) :: ls) bx R := by
  have hne : ∀ p ∈ bx, p.1 ≠ n := fun p hp => by
    have := List.all_eq_true.1 hlt p hp
    simp only [Nat.blt_eq] at this
    omega
  refine ⟨h.1, fun w A M vs hbx hsz hvs => ?_⟩
  have hst : St (envOf w A n M bx) M w { tmps := vs, defers := [] } ⟨.one (.dat (.con (.slice none 0 0))) :: ls, bx⟩ :=
    ⟨rfl, hsz, fun t l hl => by
      obtain ⟨u, hu, hr⟩ := hvs t l hl
      have : vs.getD t undef = u := by rw [Array.getD_eq_getD_getElem?, hu]; rfl
      rw [this]; exact hr, hbx⟩
  have h1 := hst.pushNil n e sz (Nat.le_refl _)
  let M1 := M.upd n 0 (.slice none 0 0) sz
  have hb1 : Boxes (envOf w A n M bx) M1 w ((n, .row e sz []) :: bx) := by
    have := h1.boxes
    simp only [DS.push] at this
    rw [drop_free_bx (s := ⟨_, bx⟩) hfb hlt] at this
    exact this
  have hperm : ((n, Box.row e sz []) :: bx).Perm (bx ++ [(n, .row e sz [])]) := (List.perm_append_comm (l₁ := [(n, Box.row e sz [])]) (l₂ := bx))
  have hb2 := hb1.perm hperm
  have hO : ∀ k, (envOf w A (n + 1) M1 (bx ++ [(n, .row e sz [])])).O k → (envOf w A n M bx).O k := by
    rintro k ⟨p, hp, hk⟩
    rcases List.mem_append.1 hp with hp | hp
    · exact ⟨p, hp, by rw [← boxBlk_updN (hne p hp)]; exact hk⟩
    · simp only [List.mem_singleton] at hp
      subst hp
      simp [boxBlk, M1, BMap.upd, Value.ownBlock] at hk
  have hb3 : Boxes (envOf w A (n + 1) M1 (bx ++ [(n, .row e sz [])])) M1 w (bx ++ [(n, .row e sz [])]) := {
    ok := hb2.ok
    ids := hb2.ids
    blks := hb2.blks
    new := fun p hp k hk => ⟨.inl ⟨p, hp, hk⟩, (hb2.new p hp k hk).2⟩
    foreign := fun b hb => ⟨(hb2.foreign b hb).1, fun ho => (hb2.foreign b hb).2 (hO b ho)⟩
    frame := Fr.refl _ _
    old := fun p hp _ => ⟨List.mem_map.2 ⟨p, hp, rfl⟩, rfl, rfl, rfl⟩ }
  have hav : ∀ b, Av A M1 (bx ++ [(n, .row e sz [])]) b → Av A M1 ((n, .row e sz []) :: bx) b := fun b hb => hb.elim .inl fun ⟨p, h2, h3⟩ => .inr ⟨p, hperm.mem_iff.2 h2, h3⟩
  refine (h.2 w A M1 vs hb3 (by simpa using hsz) fun j l hj => ?_).mono ?_
  · cases j with
    | zero =>
      cases hj
      obtain ⟨u, hu, hr⟩ := hvs 0 _ rfl
      simp only [LV.rel, C.rel] at hr
      exact ⟨u, hu, by rw [nil_rel hr]; simp [LV.rel, C.rel, M1, BMap.upd]⟩
    | succ j =>
      obtain ⟨u, hu, _⟩ := hvs (j + 1) l hj
      refine ⟨u, hu, ?_⟩
      have h2 := h1.slots (j + 1) (l.scrub n) (by
        simp only [DS.push, DS.drop, List.map_cons, List.getElem?_cons_succ, List.getElem?_map]
        rw [show ls[j]? = some l from hj]; rfl)
      have h3 : l.scrub n = l := by
        have h4 : (ls.map (LV.scrub n))[j]? = some (l.scrub n) := by rw [List.getElem?_map, show ls[j]? = some l from hj]; rfl
        rw [hfree, show ls[j]? = some l from hj] at h4
        exact (Option.some.inj h4).symm
      rw [h3] at h2
      have h5 : (Array.getD vs (j + 1) undef) = u := by rw [Array.getD_eq_getD_getElem?, hu]; rfl
      simp only [h5] at h2
      refine h2.mono (Keeps.sub fun b hb => ?_)
      simp only [DS.push]
      rw [drop_free_bx (s := ⟨_, bx⟩) hfb hlt]
      exact hav b hb
  · rintro en w' ⟨M', x, hR, hok⟩
    have conv : ∀ bx', Boxes (envOf w A (n + 1) M1 (bx ++ [(n, .row e sz [])])) M' w' bx' → Boxes (envOf w A n M bx) M' w' bx' := fun bx' hB => {
      ok := hB.ok
      ids := hB.ids
      blks := hB.blks
      new := fun p hp k hk => by
        obtain ⟨h2, h3⟩ := hB.new p hp k hk
        exact ⟨h2.imp (hO k) id, h3⟩
      foreign := hbx.foreign
      frame := ⟨hB.frame.os, hB.frame.tape, hB.frame.output, hB.frame.size, fun k hk ho => hB.frame.block k hk fun h2 => ho (hO k h2)⟩
      old := fun p hp hlt2 => by
        have hlt3 : p.1 < n := hlt2
        obtain ⟨h2, h3, h4, h5⟩ := hB.old p hp (show p.1 < n + 1 by omega)
        have hpn : p.1 ≠ n := by omega
        refine ⟨?_, h3.trans (by simp [envOf, M1, BMap.upd, hpn]), h4.trans (by simp [envOf, M1, BMap.upd, hpn]), h5.trans (by simp [envOf, M1, BMap.upd, hpn])⟩
        have h6 : p.1 ∈ (bx ++ [(n, Box.row e sz [])]).map (·.1) := h2
        rw [List.map_append, List.mem_append] at h6
        rcases h6 with h6 | h6
        · exact h6
        · simp at h6; exact absurd h6 hpn }
    refine ⟨M', x, hR, ?_⟩
    cases x with
    | ret l bx' => exact ⟨conv bx' hok.1, hok.2⟩
    | pan d bx' => exact ⟨conv bx' hok.1, hok.2⟩
end
end Go.DL

namespace Go.DL
open Go.RowKit
def Env.inl (E : Env) (M : BMap) (w : World) (bx : List (Nat × Box)) (base' : Nat) (marks : List (Deferred × Nat)) : Env :=
  ⟨w, E.A0, base', M, fun k => ∃ p ∈ bx, boxBlk M p = some k, fun i => i ∈ bx.map (·.1), marks⟩
section
variable {P : Program} {E : Env} {M M' : BMap} {w w' : World} {bx bx' : List (Nat × Box)} {base' : Nat} {marks : List (Deferred × Nat)}
theorem Boxes.inlO (h : Boxes E M w bx) {k : Nat} (hk : (E.inl M w bx base' marks).O k) : (E.O k ∨ E.w0.heap.size ≤ k) ∧ k < w.heap.size := by
  obtain ⟨p, hp, hb⟩ := hk
  exact h.new p hp k hb
theorem Boxes.enter (h : Boxes E M w bx) : Boxes (E.inl M w bx base' marks) M w bx := {
  ok := h.ok
  ids := h.ids
  blks := h.blks
  new := fun p hp k hk => ⟨.inl ⟨p, hp, hk⟩, (h.new p hp k hk).2⟩
  foreign := fun b hb => by
    have h1 := h.foreign b hb
    refine ⟨Nat.lt_of_lt_of_le h1.1 h.frame.size, fun hob => ?_⟩
    rcases (h.inlO hob).1 with h2 | h2
    · exact h1.2 h2
    · have := h1.1; omega
  frame := Fr.refl _ _
  old := fun p hp _ => ⟨List.mem_map.2 ⟨p, hp, rfl⟩, rfl, rfl, rfl⟩ }
theorem Boxes.leave (h : Boxes E M w bx) (hb : E.base ≤ base') (h2 : Boxes (E.inl M w bx base' marks) M' w' bx') : Boxes E M' w' bx' := {
  ok := h2.ok
  ids := h2.ids
  blks := h2.blks
  new := fun p hp k hk => by
    obtain ⟨g1, g2⟩ := h2.new p hp k hk
    refine ⟨?_, g2⟩
    rcases g1 with g1 | g1
    · exact (h.inlO g1).1
    · exact .inr (Nat.le_trans h.frame.size g1)
  foreign := h.foreign
  frame := by
    have h1 := h2.frame
    have h3 := h.frame
    refine ⟨h1.os.trans h3.os, h1.tape.trans h3.tape, h1.output.trans h3.output, Nat.le_trans h3.size h1.size, fun k hk hok => ?_⟩
    refine (h1.block k (Nat.lt_of_lt_of_le hk h3.size) fun hob => ?_).trans (h3.block k hk hok)
    rcases (h.inlO hob).1 with h4 | h4
    · exact hok h4
    · omega
  old := fun p hp hlt => by
    obtain ⟨h1, g2, g3, g4⟩ := h2.old p hp (Nat.lt_of_lt_of_le hlt hb)
    obtain ⟨p0, hp0, he⟩ := List.mem_map.1 h1
    have := h.old p0 hp0 (by rw [he]; exact hlt)
    rw [he] at this
    obtain ⟨k1, k2, k3, k4⟩ := this
    exact ⟨k1, g2.trans k2, g3.trans k3, g4.trans k4⟩ }
theorem Boxes.keeps (h : Boxes E M w bx) (h2 : Boxes (E.inl M w bx base' marks) M' w' bx') : Keeps w (Av E.A0 M bx) w' (Av E.A0 M' bx') := by
  intro b off u h1 h3
  have hlt := World.block_lt_of_cell? w ⟨b, off, none⟩ h3
  have hnO : ¬ (E.inl M w bx base' marks).O b := fun hob => h1 (.inr hob)
  refine ⟨fun h4 => ?_, ?_⟩
  · rcases h4 with h4 | ⟨p, hp, hk⟩
    · exact h1 (.inl h4)
    · rcases (h2.new p hp b hk).1 with h5 | h5
      · exact hnO h5
      · exact absurd hlt (Nat.not_lt.2 h5)
  · rw [World.cell?_of_block (h2.frame.block b hlt hnO)]; exact h3
theorem Boxes.live (h2 : Boxes (E.inl M w bx base' marks) M' w' bx') {i : Nat} (hi : liveIn bx' base' i = true) : M'.blk i = M.blk i ∧ M'.rv i = M.rv i ∧ M'.sz i = M.sz i := by
  simp only [liveIn, Bool.and_eq_true, List.any_eq_true, beq_iff_eq] at hi
  obtain ⟨h1, p, hp, he⟩ := hi
  have hlt : i < base' := by simpa [Nat.blt_eq] using h1
  obtain ⟨_, g2, g3, g4⟩ := h2.old p hp (by rw [he]; exact hlt)
  rw [he] at g2 g3 g4
  exact ⟨g2, g3, g4⟩
end
section
variable {P : Program}
theorem steps_takeAll {fr : Frame} {cs : List Frame} : ∀ (ds : List Deferred) (fr : Frame) (w w2 : World), takeAll P ds w w2 → fr.mode ≠ .run → fr.defers = ds → StepsIn (Machine.fenced P Fence.wide) P (lone fr cs w) (lone { fr with defers := [] } cs w2)
  | [], fr, w, w2, h, _, hd => by
    have e : w2 = w := h
    subst e
    have : ({ fr with defers := [] } : Frame) = fr := by cases fr; simp only at hd; subst hd; rfl
    rw [this]; exact .refl _
  | d :: ds, fr, w, w2, ⟨r, w1, h1, h2, h3⟩, hm, hd =>
    .head (fenced_wide _ _) (step_collected hm hd h1 h2) (steps_takeAll (fr := fr) ds { fr with defers := [] ++ ds } w1 w2 h3 hm rfl)
theorem leaves_app {fn : Func} {tmps : Array Value} {R : Ending → World → Prop} {rest : List Deferred} {u : FrameMode} (hu : u ≠ .run) : ∀ (ds : List Deferred) (w w2 : World), takeAll P ds w w2 → LeavesInM Fence.wide 0 P fn tmps R rest u w2 → LeavesInM Fence.wide 0 P fn tmps R (ds ++ rest) u w
  | [], w, w2, h, hr => by
    have e : w2 = w := h
    subst e
    exact hr
  | d :: ds, w, w2, ⟨r, w1, h1, h2, h3⟩, hr => ⟨hu, .inl ⟨r, w1, h1, h2, leaves_app hu ds w1 w2 h3 hr⟩⟩
theorem callsD_marks {f : FuncId} {fn : Func} {c : Code} {args : Array Value} {u : FrameMode} {w : World} {R : Ending → FrameMode → World → Prop} (hf : P.funcs[f]? = some fn) (hb : fn.body = some c)
    (h : ∀ (c₀ : Frame) (cs : List Frame), c₀.mode = u → c.wpSIn Fence.wide 0 P (fun e a cs' w' => (e = .normal ∨ e = .ret) ∧ ∃ w2, takeAll P a.defers w' w2 ∧ ∃ u', cs' = { c₀ with mode := u' } :: cs ∧ ∃ v, (results fn a.tmps).run P w2 = .ok v w2 ∧ R (.returned v) u' w2)
      { tmps := args ++ Array.replicate (fn.ntmps - args.size) undef, defers := [] } (c₀ :: cs) w) : CallsDIn Fence.wide 0 P f args u w R := by
  refine ⟨trivial, fun c₀ cs hu hroom => ?_⟩
  let b : Frame := { (default : Frame) with fn := f, kind := .deferred, roundOf := none }
  have henter : Frame.enter P f args .deferred = b.atR { tmps := args ++ Array.replicate (fn.ntmps - args.size) undef, defers := [] } [.code c] := by
    simp [Frame.enter, Frame.atR, hf, hb, b]
  obtain ⟨e, a', cs', w', hl, ⟨he, w2, ht, u', rfl, v, hr, hR⟩, harr⟩ := h c₀ cs hu b [] rfl rfl trivial hroom
  rw [← henter] at harr
  have fin : ∀ (fr : Frame), fr.mode = .returning → fr.defers = a'.defers → fr.tmps = a'.tmps → fr.fn = f → fr.kind = .deferred → StepsIn (Machine.fenced P Fence.wide) P (lone (Frame.enter P f args .deferred) (c₀ :: cs) w) (lone fr ({ c₀ with mode := u' } :: cs) w') →
      ∃ e u' w' fr, R e u' w' ∧ ComesIn (Machine.fenced P Fence.wide) P (lone (Frame.enter P f args .deferred) (c₀ :: cs) w) (lone fr ({ c₀ with mode := u' } :: cs) w') e ∧ fr.kind = .deferred ∧ fr.fn = f ∧ fr.going P w' e := by
    intro fr h1 h2 h3 h4 h5 hs
    refine ⟨.returned v, u', w2, { fr with defers := [] }, hR, StepsIn.trans hs (steps_takeAll (fr := fr) a'.defers fr w' w2 ht (by rw [h1]; simp) h2), h5, h4, h1, rfl, fn, ?_, ?_⟩
    · show P.funcs[fr.fn]? = some fn
      rw [h4]; exact hf
    · show (results fn fr.tmps).run P w2 = _
      rw [h3]; exact hr
  rcases he with rfl | rfl
  · exact fin _ rfl rfl rfl rfl rfl (StepsIn.trans harr (.one (fenced_wide _ _) (stepR_end rfl)))
  · obtain ⟨todo, hs⟩ := harr.1 rfl
    exact fin _ rfl rfl rfl rfl rfl hs
theorem wpS_recover {id : Nat} {rc asg : Oper} {t t' : Nat} {ts : Array TypeId} {Q : Exit → Act → List Frame → World → Prop} (h1 : rc.op = .call { callee := .builtin .recover, args := #[], argTypes := ts }) (h2 : rc.dst = some t) (h3 : rc.guard = none) (h4 : asg.op = .assign (.tmp t)) (h5 : asg.dst = some t') (h6 : asg.guard = none)
    {a : Act} {c₀ : Frame} {cs : List Frame} {w : World} {v : Value} {u' : FrameMode} (hr : recoverD (c₀ :: cs) = some (v, { c₀ with mode := u' } :: cs) ∨ (recoverD (c₀ :: cs) = none ∧ v = .nilIface ∧ u' = c₀.mode)) (hsz : t < a.tmps.size)
    (hq : Q .normal ((a.put (some t) v).put (some t') v) ({ c₀ with mode := u' } :: cs) w) : (Code.region id #[rc, asg] false).wpSIn Fence.wide 0 P Q a (c₀ :: cs) w := by
  apply wpSIn_region
  have hrun : (execOp a.eval rc).run P w = .ok .recover w := by
    simp only [execOp, h1, resolve, Sem.run_bind, Sem.run_pure, Result.andThen_ok, invoke, builtin]
  have hab : ∀ (o : Oper) (a : Act) (w : World) (f : FuncId), o.about P w a.eval = some f → Fence.wide.fn f := fun _ _ _ _ _ => trivial
  have hw1 : ∀ (b : Act), Region.wanted rc (yielded #[rc, asg] b.tmps) = true := fun b => by unfold Region.wanted; rw [h3]
  have hw2 : ∀ (b : Act), Region.wanted asg (yielded #[rc, asg] b.tmps) = true := fun b => by unfold Region.wanted; rw [h6]
  have hget : (a.put (some t) v).eval (.tmp t) = v := by
    simp [Act.eval, Act.put, hsz]
  have hrun2 : (execOp (a.put (some t) v).eval asg).run P w = .ok (.value v) w := by
    simp only [execOp, h4, hget, Sem.run_pure]
  have rest : ∀ cs', wpOpsSIn Fence.wide 0 P #[rc, asg] Q [1] (a.put (some t) v) cs' w = (wpOpsSIn Fence.wide 0 P #[rc, asg] Q [1] (a.put (some t) v) cs' w) := fun _ => rfl
  have step2 : Q .normal ((a.put (some t) v).put (some t') v) ({ c₀ with mode := u' } :: cs) w → wpOpsSIn Fence.wide 0 P #[rc, asg] Q [1] (a.put (some t) v) ({ c₀ with mode := u' } :: cs) w := by
    intro hq
    unfold wpOpsSIn
    simp only [List.getElem?_toArray, List.getElem?_cons_succ, List.getElem?_cons_zero]
    refine ⟨fun f hf => trivial, ?_⟩
    rw [if_pos (hw2 _), hrun2, h5]
    exact hq
  show wpOpsSIn Fence.wide 0 P #[rc, asg] Q [0, 1] a (c₀ :: cs) w
  unfold wpOpsSIn
  simp only [List.getElem?_toArray, List.getElem?_cons_zero]
  refine ⟨fun f hf => trivial, ?_⟩
  rw [if_pos (hw1 _), hrun, h2]
  rcases hr with hr | ⟨hr, rfl, rfl⟩
  · simp only [hr]
    exact step2 hq
  · simp only [hr]
    exact step2 hq
def closDS (gfn : Func) (caps : List (Sum Nat D)) (t t' : Nat) (rv : LV) (bx : List (Nat × Box)) : DS :=
  ((⟨caps.map capLV ++ List.replicate (gfn.ntmps - caps.length) (.one .junk), bx⟩ : DS).put (some t) rv).put (some t') rv
theorem closure_runs {E : Env} {M : BMap} {w : World} {a : Act} {s : DS} (hst : St E M w a s) {g : FuncId} {gfn : Func} {id : Nat} {rc asg : Oper} {t t' : Nat} {ts : Array TypeId} {cR : Code} (hf : P.funcs[g]? = some gfn) (hb : gfn.body = some (.seq (.region id #[rc, asg] false) cR))
    (h1 : rc.op = .call { callee := .builtin .recover, args := #[], argTypes := ts }) (h2 : rc.dst = some t) (h3 : rc.guard = none) (h4 : asg.op = .assign (.tmp t)) (h5 : asg.dst = some t') (h6 : asg.guard = none) (hres : gfn.results = #[])
    {caps : List (Sum Nat D)} {arr : Array Value} (hsz : arr.size = caps.length) (hcap : ∀ (j : Nat) (c : Sum Nat D), caps[j]? = some c → ∃ u, arr[j]? = some u ∧ capRel w (Av E.A0 M s.bx) M c u) (base' : Nat) (hbase : E.base ≤ base') (ht : t < caps.length + (gfn.ntmps - caps.length))
    {u u' : FrameMode} {rv : LV} {v : Value} (hrv : LV.rel w (Av E.A0 M s.bx) M rv v) (hrec : ∀ c₀ cs, c₀.mode = u → recoverD (c₀ :: cs) = some (v, { c₀ with mode := u' } :: cs) ∨ (recoverD (c₀ :: cs) = none ∧ v = .nilIface ∧ u' = c₀.mode))
    {N : DS → Prop} (hT : T P base' cR (fun x s5 => (x = .normal ∨ x = .ret) ∧ N (s.back s5.bx base')) (closDS gfn caps t t' rv s.bx)) :
    CallsDIn Fence.wide 0 P g arr u w fun e u'' w' => (∃ v, e = .returned v) ∧ u'' = u' ∧ ∃ M' s6, N s6 ∧ St E M' w' a s6 := by
  refine callsD_marks hf hb fun c₀ cs hu => ?_
  refine wpSIn_seq (wpS_recover h1 h2 h3 h4 h5 h6 (hrec c₀ cs hu) (by simp [hsz]; omega) ?_)
  have hbE : Boxes (E.inl M w s.bx base' []) M w s.bx := hst.boxes.enter
  have hst0 : St (E.inl M w s.bx base' []) M w { tmps := arr ++ Array.replicate (gfn.ntmps - arr.size) undef, defers := [] } ⟨caps.map capLV ++ List.replicate (gfn.ntmps - caps.length) (.one .junk), s.bx⟩ := by
    refine ⟨rfl, by simp [hsz], fun k l hl => ?_, hbE⟩
    rw [List.getElem?_append] at hl
    simp only [List.length_map] at hl
    rw [Array.getD_eq_getD_getElem?, Array.getElem?_append, hsz]
    split at hl
    · rename_i hlt
      rw [if_pos hlt]
      simp only [List.getElem?_map, Option.map_eq_some_iff] at hl
      obtain ⟨cp, hcp, rfl⟩ := hl
      obtain ⟨u, hu, hr⟩ := hcap _ cp hcp
      rw [hu, Option.getD_some]
      cases cp with
      | inl i => exact hr
      | inr d => exact hr
    · rw [List.getElem?_replicate] at hl
      split at hl
      · cases hl; trivial
      · cases hl
  have hst4 := (hst0.put (some t) hrv).put (some t') hrv
  have hwp := hT _ M w _ rfl hst4
  refine wpSIn_of_wpIn rfl (wpIn_wide.2 (wp_mono hwp ?_))
  rintro e a5 w5 ⟨E5, hext, x, s5, M5, hx, ⟨hxx, hN⟩, hst5⟩
  obtain ⟨w6, ht6, hst6⟩ := St.atEnd (P := P) hext rfl hbE.foreign hst5
  have hB6 := hst.boxes.leave hbase hst6.boxes
  have hS6 : St E M5 w6 a (s.back s5.bx base') := by
    refine ⟨hst.defers, by simp [DS.back, hst.size], fun k l hl => ?_, hB6⟩
    simp only [DS.back, List.getElem?_map, Option.map_eq_some_iff] at hl
    obtain ⟨l', hl', rfl⟩ := hl
    exact LV.keep_rel (fun i hi => hst6.boxes.live hi) ((hst.slots k l' hl').mono (hst.boxes.keeps hst6.boxes))
  have hrr : (results gfn a5.tmps).run P w6 = .ok (.tuple #[]) w6 := by
    have := results_run (P := P) (w := w6) gfn a5.tmps [] (by rw [hres]; rfl)
    simpa using this
  refine ⟨?_, w6, ht6, u', rfl, _, hrr, ⟨_, rfl⟩, rfl, M5, _, hN, hS6⟩
  rcases hxx with rfl | rfl
  · cases e <;> simp only [XRel] at hx; exact .inl rfl
  · cases e <;> simp only [XRel] at hx; exact .inr rfl
def capsLive (caps : List (Sum Nat D)) (bx : List (Nat × Box)) (base : Nat) : Bool := caps.all fun c => match c with
  | .inl i => liveIn bx base i
  | .inr _ => true
def defFin (P : Program) (n : Nat) (fn : Func) (R : CO → Prop) (s : DS) : Prop := ∃ s', s.LeB n s' ∧ ∃ ls, dres P s' fn.results.toList = some ls ∧ R (.ret (resLV ls) s'.bx)
def defPost (P : Program) (n : Nat) (fn gfn : Func) (caps : List (Sum Nat D)) (t t' base1 base2 : Nat) (cR : Code) (R : CO → Prop) : DX → DS → Prop
  | .normal, s => capsLive caps s.bx base1 = true ∧ T P base2 cR (fun x s5 => (x = .normal ∨ x = .ret) ∧ defFin P n fn R (s.back s5.bx base2)) (closDS gfn caps t t' (.one (.dat (.con .nilIface))) s.bx)
  | .ret, s => capsLive caps s.bx base1 = true ∧ T P base2 cR (fun x s5 => (x = .normal ∨ x = .ret) ∧ defFin P n fn R (s.back s5.bx base2)) (closDS gfn caps t t' (.one (.dat (.con .nilIface))) s.bx)
  | .panic d, s => d.scalar = true ∧ capsLive caps s.bx base1 = true ∧ T P base2 cR (fun x s5 => (x = .normal ∨ x = .ret) ∧ defFin P n fn R (s.back s5.bx base2)) (closDS gfn caps t t' (.one (.dat d)) s.bx)
  | _, _ => False
set_option maxHeartbeats 1000000 in
theorem CT.of_defer {f g : FuncId} {fn gfn : Func} {cA cB cR : Code} {id id2 : Nat} {mk df rc asg : Oper} {t0 t t' : Nat} {capsO : Array Operand} {ts ts2 : Array TypeId} {n : Nat} {ls : List LV} {bx : List (Nat × Box)} {R : CO → Prop} (base1 base2 : Nat)
    (hf : P.funcs[f]? = some fn) (hname : (fn.name == "runtime.NumGoroutine") = false) (hb : fn.body = some (.seq cA (.seq (.region id #[mk, df] false) cB)))
    (k1 : mk.op = .makeFunc (.func g) #[] capsO) (k2 : mk.dst = some t0) (k3 : mk.guard = none) (k4 : df.op = .defer { callee := .value (.tmp t0), args := #[], argTypes := ts2 }) (k5 : df.dst = none) (k6 : df.guard = none)
    (hgf : P.funcs[g]? = some gfn) (hgname : (gfn.name == "runtime.NumGoroutine") = false) (hgb : gfn.body = some (.seq (.region id2 #[rc, asg] false) cR))
    (h1 : rc.op = .call { callee := .builtin .recover, args := #[], argTypes := ts }) (h2 : rc.dst = some t) (h3 : rc.guard = none) (h4 : asg.op = .assign (.tmp t)) (h5 : asg.dst = some t') (h6 : asg.guard = none) (hres : gfn.results = #[])
    (hb1 : Nat.ble n base1 = true) (hb2 : Nat.ble base1 base2 = true) (ht : ∀ k, k = capsO.size → t < k + (gfn.ntmps - k))
    (hA : T P n cA (fun x s1 => x = .normal ∧ ∃ caps, capsC (capsO.toList.map s1.ev) = some caps ∧ Nat.blt t0 s1.sl.length = true ∧ T P base1 cB (defPost P n fn gfn caps t t' base1 base2 cR R) (s1.put (some t0) (.one (.fn g caps)))) ⟨ls ++ List.replicate (fn.ntmps - ls.length) (.one .junk), bx⟩) :
    CT P f n ls bx R := by
  refine ⟨⟨fn, hf, hname, by rw [hb]; rfl⟩, fun w A M vs hbx hsz hvs => ?_⟩
  have hst : St (envOf w A n M bx) M w { tmps := vs ++ Array.replicate (fn.ntmps - vs.size) undef, defers := [] } ⟨ls ++ List.replicate (fn.ntmps - ls.length) (.one .junk), bx⟩ := by
    refine ⟨rfl, by simp [hsz], fun t l hl => ?_, hbx⟩
    rw [List.getElem?_append] at hl
    split at hl
    · rename_i hlt
      obtain ⟨u, hu, hr⟩ := hvs t l hl
      have : (vs ++ Array.replicate (fn.ntmps - vs.size) undef).getD t undef = u := by
        rw [Array.getD_eq_getD_getElem?, Array.getElem?_append_left (by rw [hsz]; exact hlt), hu]; rfl
      rw [this]
      exact hr
    · rw [List.getElem?_replicate] at hl
      split at hl
      · cases hl; trivial
      · cases hl
  refine (callsIn_wide (n := 0)).1 (callsIn_of_wp_marks hf hb trivial (wpIn_wide.2 (wp_seq (wp_mono (hA _ M w _ rfl hst) ?_))) rfl)
  rintro e a1 w1 ⟨E1, hext1, x, s1, M1, hx, ⟨rfl, caps, hcaps, hlt0, hB⟩, hst1⟩
  cases e <;> simp only [XRel] at hx
  -- the closure is made and deferred
  obtain ⟨hcl, hcr⟩ := capsC_rel (w := w1) (A := Av E1.A0 M1 s1.bx) (M := M1) _ caps hcaps (fun j => (capsO.map a1.eval)[j]?) (by
    intro j l hj
    simp only [List.getElem?_map, Option.map_eq_some_iff, Array.getElem?_toList] at hj
    obtain ⟨x, hx, rfl⟩ := hj
    exact ⟨a1.eval x, by simp [hx], ev_rel hst1.size hst1.slots x⟩)
  simp only [List.length_map, Array.length_toList] at hcl
  let arr : Array Value := capsO.map a1.eval
  let fv : Value := .func (.func g) #[] arr
  let d : Deferred := ⟨.fn (.func g) arr, #[]⟩
  have hrun1 : (execOp a1.eval mk).run P w1 = .ok (.value fv) w1 := by simp [execOp, k1, Instr.makeFunc, fv, arr]
  have hsz1 : t0 < a1.tmps.size := by rw [hst1.size]; simpa [Nat.blt_eq] using hlt0
  have hget : (a1.put (some t0) fv).eval (.tmp t0) = fv := by simp [Act.eval, Act.put, hsz1]
  have hrun2 : (execOp (a1.put (some t0) fv).eval df).run P w1 = .ok (.defer d) w1 := by
    simp [execOp, k4, resolve, hget, fv, Deferred.ofValue, d]
  refine wp_seq ?_
  have hreg : (Code.region id #[mk, df] false).wp P (Exit.then (cB.wp P (bodyPostM Fence.wide 0 P fn fun e w' => ∃ M' x, R x ∧ COok (envOf w A n M bx) M' w' e x)) (bodyPostM Fence.wide 0 P fn fun e w' => ∃ M' x, R x ∧ COok (envOf w A n M bx) M' w' e x)) a1 w1 := by
    refine wp_region_lit (l := [mk, df]) ?_
    refine wpList_plain k3 fun K hK => ?_
    unfold Oper.wp
    rw [hrun1, Oper.upon_value, k2]
    refine hK _ _ (wpList_plain k6 fun K2 hK2 => ?_)
    unfold Oper.wp
    rw [hrun2, Oper.upon_defer, k5]
    refine hK2 _ _ (wpList_nil ?_)
    show cB.wp P _ _ w1
    -- the part behind it
    let E2 : Env := E1.inl M1 w1 s1.bx base1 ((d, 0) :: E1.marks)
    have hb1' : E1.base ≤ base1 := by rw [hext1.base]; exact Nat.le_of_ble_eq_true hb1
    have hB2 : Boxes E2 M1 w1 s1.bx := hst1.boxes.enter
    have hrfv : LV.rel w1 (Av E1.A0 M1 s1.bx) M1 (.one (.fn g caps)) fv := ⟨arr, rfl, by simp [arr, hcl], hcr⟩
    have hput := hst1.put (some t0) hrfv
    have hst2 : St E2 M1 w1 ({ a1.put (some t0) fv with defers := d :: (a1.put (some t0) fv).defers }.put none undef) (s1.put (some t0) (.one (.fn g caps))) := by
      refine ⟨?_, hput.size, hput.slots, hB2⟩
      show d :: (a1.put (some t0) fv).defers = E2.defs
      rw [hput.defers]; rfl
    refine wp_mono (hB E2 M1 w1 _ rfl hst2) ?_
    rintro e a3 w3 ⟨E3, hext3, x, s3, M3, hx, hq, hst3⟩
    have hback := St.back hext3 hB2.foreign hst3
    obtain ⟨l2, m1, m2, m3⟩ := hext3.marks
    obtain ⟨w4, g1, hst4⟩ := St.takes (P := P) l2 w3 m2 (fun p hp => by
      obtain ⟨a1, a2, a3, a4, a5⟩ := m3 p hp
      exact ⟨a1, a5, by rw [hst3.boxes.frame.block _ a2 a3]; exact a4⟩) hback
    have hdef3 : a3.defers = l2.map (·.1) ++ (d :: E1.defs) := by
      rw [hst3.defers]
      simp [Env.defs, m1, E2, Env.inl]
    have hcallable : Callable P g := ⟨gfn, hgf, hgname, by rw [hgb]; rfl⟩
    have core : ∀ (u u' : FrameMode) (rv : LV) (v : Value), u ≠ .run → settle u' = .returning → capsLive caps s3.bx base1 = true → LV.rel w4 (Av E2.A0 M3 s3.bx) M3 rv v →
        (∀ c₀ cs, c₀.mode = u → recoverD (c₀ :: cs) = some (v, { c₀ with mode := u' } :: cs) ∨ (recoverD (c₀ :: cs) = none ∧ v = .nilIface ∧ u' = c₀.mode)) →
        T P base2 cR (fun x s5 => (x = .normal ∨ x = .ret) ∧ defFin P n fn R (s3.back s5.bx base2)) (closDS gfn caps t t' rv s3.bx) →
        LeavesInM Fence.wide 0 P fn a3.tmps (fun e w' => ∃ M' x, R x ∧ COok (envOf w A n M bx) M' w' e x) a3.defers u w3 := by
      intro u u' rv v hu hset hlive hrv hrec hT
      rw [hdef3]
      refine leaves_app hu _ _ _ g1 ⟨hu, .inr ⟨fun h => by simp [Fence.wide] at h, .func g, arr, g, #[] ++ arr, rfl, ?_, fun _ _ => trivial, ?_⟩⟩
      · obtain ⟨fn', q1, q2, q3⟩ := hcallable
        have q3' : fn'.body.isNone = false := q3
        simp only [d, invoke, callFunc, Sem.run_bind, run_program, q1, q2, q3', Sem.run_pure, Result.andThen_ok, Bool.false_eq_true, if_false]
      · have hc4 : ∀ (j : Nat) (c : Sum Nat D), caps[j]? = some c → ∃ u, (#[] ++ arr)[j]? = some u ∧ capRel w4 (Av E2.A0 M3 s3.bx) M3 c u := by
          intro j c hj
          obtain ⟨u, hu, hr⟩ := hcr j c hj
          refine ⟨u, by simpa [arr] using hu, ?_⟩
          cases c with
          | inl i =>
            have := List.all_eq_true.1 hlive _ (List.mem_of_getElem? hj)
            simp only at this
            have hl := (hst4.boxes.live this).1
            simp only [capRel] at hr ⊢
            rw [hr, hl]
          | inr dd => exact RelD.mono (hst1.boxes.keeps hst4.boxes) hr
        have hcd := closure_runs (N := defFin P n fn R) hst4 hgf hgb h1 h2 h3 h4 h5 h6 hres (arr := #[] ++ arr) (by simp [arr, hcl]) hc4 base2 (by show base1 ≤ base2; exact Nat.le_of_ble_eq_true hb2) (by rw [hcl]; exact ht _ rfl) hrv hrec hT
        refine hcd.mono ?_
        rintro e u'' w6 ⟨⟨vv, rfl⟩, rfl, M6, s6, ⟨s7, hle7, rs, hd1, hd2⟩, hst6⟩
        show LeavesInM Fence.wide 0 P fn a3.tmps _ E1.defs (settle u'') w6
        rw [hset]
        have hst7 : St E1 M6 w6 { a3 with defers := E1.defs } s6 := ⟨rfl, hst6.size, hst6.slots, hst1.boxes.leave hb1' hst6.boxes⟩
        obtain ⟨w7, ht7, hst8⟩ := St.atEnd (P := P) hext1 rfl hbx.foreign hst7
        obtain ⟨M7, hst9⟩ := hle7 _ _ _ _ (show (envOf w A n M bx).base = n from rfl) hst8
        obtain ⟨vs', h7, h8, h9⟩ := dres_run (P := P) hst9 _ rs hd1
        exact takeAll_leaves _ _ _ ht7 ⟨_, results_run fn a3.tmps vs' h7, M7, _, hd2, hst9.boxes, _, rfl, resLV_rel h8 h9⟩
    cases x with
    | normal =>
      cases e <;> simp only [XRel] at hx
      exact core .returning .returning (.one (.dat (.con .nilIface))) .nilIface (by simp) rfl hq.1 (show RelD _ _ (.con .nilIface) _ from .con _ rfl) (fun c₀ cs hc => .inr ⟨by simp [recoverD, hc], rfl, hc.symm⟩) hq.2
    | ret =>
      cases e <;> simp only [XRel] at hx
      exact core .returning .returning (.one (.dat (.con .nilIface))) .nilIface (by simp) rfl hq.1 (show RelD _ _ (.con .nilIface) _ from .con _ rfl) (fun c₀ cs hc => .inr ⟨by simp [recoverD, hc], rfl, hc.symm⟩) hq.2
    | exit id => exact hq.elim
    | panic d' =>
      cases e <;> simp only [XRel] at hx
      obtain ⟨v, rfl, hr⟩ := hx
      exact core (.panicking [{ v := v, recovered := false }]) (.panicking [{ v := v, recovered := true }]) (.one (.dat d')) v (by simp) rfl hq.2.1 (show RelD _ _ d' v from scalar_rel hr hq.1) (fun c₀ cs hc => .inl (by simp [recoverD, hc])) hq.2.2
  exact hreg
end
end Go.DL

namespace Go.DL
open Go.RowKit
section
variable {P : Program} {base : Nat} {ops : Array Oper} {Q : DX → DS → Prop} {s : DS}
theorem DS.le_pick (s : DS) (bx : List (Nat × Box)) (hn : decide (bx.map (·.1)).Nodup = true) (h : ∀ p ∈ bx, s.bx.lookup p.1 = some p.2) : s.Le ⟨s.sl, bx⟩ := by
  intro E M w a hst
  have hn' : (bx.map (·.1)).Nodup := of_decide_eq_true hn
  have hmem : ∀ p ∈ bx, p ∈ s.bx := fun p hp => lookup_mem (h p hp)
  have hav : ∀ b, Av E.A0 M bx b → Av E.A0 M s.bx b := fun b hb => hb.elim .inl fun ⟨p, h1, h2⟩ => .inr ⟨p, hmem p h1, h2⟩
  refine ⟨M, hst.defers, hst.size, fun t l hl => (hst.slots t l hl).mono (Keeps.sub hav), ?_⟩
  exact {
    ok := fun id b hb => (hst.boxes.ok id b (hmem _ hb)).mono (Keeps.sub hav) (fun _ _ => rfl)
    ids := hn'
    blks := nodup_fm (nodup_of_map hn') fun p hp q hq k h1 h2 => blk_inj hst.boxes.blks (hmem p hp) (hmem q hq) h1 h2
    new := fun p hp => hst.boxes.new p (hmem p hp)
    foreign := hst.boxes.foreign
    frame := hst.boxes.frame
    old := fun p hp => hst.boxes.old p (hmem p hp) }
def noIface : TypeDesc → Bool
  | .interface _ => false
  | _ => true
theorem TL_assert (xt t : TypeId) (d : D) {td : TypeDesc} {o : Oper} {rest : List Oper} {x : Operand} (hop : o.op = .typeAssert x xt t false) (hg : o.guard = none) (hu : P.underlying t = some td) (hni : noIface td = true) (hx : s.ev x = .one (.dat (.iface t d))) (h : TL P base ops rest Q (s.put o.dst (.one (.dat d)))) : TL P base ops (o :: rest) Q s := by
  intro E M w a hE hst
  refine wpList_plain hg fun K hK => ?_
  have rx := ev_rel hst.size hst.slots x
  rw [hx] at rx
  simp only [LV.rel, C.rel] at rx
  unfold Oper.wp
  cases hv : a.eval x <;> rw [hv] at rx <;> cases rx
  rename_i v hr
  have hrun : (execOp a.eval o).run P w = .ok (.value v) w := by
    simp only [execOp, hop, hv, Instr.typeAssert, Sem.run_bind, run_underlying hu]
    cases td <;> simp_all [noIface]
  rw [hrun]
  exact hK _ _ (h E M w _ hE (hst.put o.dst hr))
theorem assertU (xt t : TypeId) (d : D) {td : TypeDesc} {o : Oper} {x : Operand} (hop : o.op = .typeAssert x xt t false) (hg : o.guard = none) (hu : P.underlying t = some td) (hni : noIface td = true) (ids : List Nat) (hids : decide ids.Nodup = true) (c : Nat) (st st' : Nat → DS) (ms : List Nat)
    (hx : ms.map (fun m => (st m).ev x) = ms.map fun _ => .one (.dat (.iface t d))) (hcov : (ms.all fun m => ((st m).put o.dst (.one (.dat d))).bx.all fun p => ids.contains p.1) = true)
    (hend : ms.map (fun m => ((st m).put o.dst (.one (.dat d))).order ids) = ms.map fun m => st' (m + 2 ^ c)) : ∀ m ∈ ms, TL P base ops [o] (QE Q (st' (m + 2 ^ c))) (st m) := by
  intro m hm
  refine TL_assert xt t d hop hg hu hni (List.map_inj_left.1 hx m hm) (TL_nilQ (QE_end ?_))
  rw [← List.map_inj_left.1 hend m hm]
  refine DS.le_order _ ids (of_decide_eq_true hids) fun p hp => ?_
  simpa using List.all_eq_true.1 (List.all_eq_true.1 hcov m hm) p hp
end
end Go.DL

namespace Go.Proofs.YtimalbkjflfdoaaDoor
open Go.DL
set_option maxRecDepth 100000
set_option maxHeartbeats 4000000
noncomputable def g_codec_Decode (b_1 : List UInt8) : Option ((Val × Int) ⊕ Unit) :=
  bdP (g__codec_reader_value 60 (⟨b_1⟩ : Reader) 0) (fun r_2 => if (decide (((r_2.2.rest.length : Nat) : Int) > 0)) = true then (some (.inl ((⟨0, 0, ([] : List UInt8), ([] : List Val), ([] : List (List UInt8))⟩ : Val), 20))) else some (.inl (r_2.1, 0))) (some (.inl ((⟨0, 0, ([] : List UInt8), ([] : List Val), ([] : List (List UInt8))⟩ : Val), 20)))
end Go.Proofs.YtimalbkjflfdoaaDoor

namespace Go.Proofs.YtimalbkjflfdoaaDoor
open Go.DL
set_option maxRecDepth 100000
set_option maxHeartbeats 4000000
theorem g_codec_Decode_ret {b_1 : List UInt8} {r : (Val × Int) ⊕ Unit} (h : g_codec_Decode b_1 = some r) : CT Tryd.prog 16 3 [(dt (.sl 1 (b_1.map elB)))] ghosts (CoR 3 ghosts (fun x => ((.tup [(true, (qVal x.1)), (false, [(.dat (I x.2))])]), ghosts)) (.iface 29 (.int .i64 20)) r) := by
  refine CT.of_defer 23 43 Tryd.func16 rfl rfl rfl rfl rfl rfl rfl rfl Tryd.func31 rfl rfl rfl rfl rfl rfl rfl rfl rfl rfl rfl (by intro k e; subst e; decide) ?_
  refine T_turn [] [0] [] (mk 20 [(0, (dt (.sl 1 (b_1.map elB))))] ghosts) (by kernel_rfl) ?_
  refine T_regE [] (mk 20 [(0, (dt (.sl 1 (b_1.map elB)))), (2, (rf 5 0)), (3, (rf 6 0))] [(6, (.var [(.dat (I 0))])), (5, (.var [(.dat (I 0)), (.dat (I 0)), (.dat (.str ([] : List UInt8))), (.dat nilS), (.dat nilS)])), (0, gB0), (1, gB1), (2, gB2)]) _ (by kernel_rfl) (z4 zt) ?_
  refine ⟨rfl, [.inl 5, .inl 6], by kernel_rfl, by kernel_rfl, ?_⟩
  refine T_turn [] [0, 2, 3] [] (mk 20 [(0, (dt (.sl 1 (b_1.map elB)))), (2, (rf 5 0)), (3, (rf 6 0))] [(6, (.var [(.dat (I 0))])), (5, (.var [(.dat (I 0)), (.dat (I 0)), (.dat (.str ([] : List UInt8))), (.dat nilS), (.dat nilS)])), (0, gB0), (1, gB1), (2, gB2)]) (by kernel_rfl) ?_
  refine T_reg [] [2, 3, 4] [] (mk 20 [(2, (rf 5 0)), (3, (rf 6 0)), (4, (rf 31 0))] [(31, (.var [(.dat (.sl 1 (b_1.map elB)))])), (6, (.var [(.dat (I 0))])), (5, (.var [(.dat (I 0)), (.dat (I 0)), (.dat (.str ([] : List UInt8))), (.dat nilS), (.dat nilS)])), (0, gB0), (1, gB1), (2, gB2)]) _ (by kernel_rfl) (z8 zt) ?_
  refine T_seq (T_parts ?_)
  refine TL_part 1 [] (mk 20 [(2, (rf 5 0)), (3, (rf 6 0)), (4, (rf 31 0)), (9, (rf 31 0))] [(31, (.var [(.dat (.sl 1 (b_1.map elB)))])), (6, (.var [(.dat (I 0))])), (5, (.var [(.dat (I 0)), (.dat (I 0)), (.dat (.str ([] : List UInt8))), (.dat nilS), (.dat nilS)])), (0, gB0), (1, gB1), (2, gB2)]) _ (by kernel_rfl) (z2 zt) rfl ?_
  obtain ⟨y3, e4, hk5, hz6⟩ := bdP_inv h
  refine TL_ct 32 [0, 1, 2, 31] 100023 _ _ [] (g__codec_reader_value_ret e4) rfl rfl (by kernel_rfl) (by kernel_rfl) (by kernel_rfl) (by kernel_rfl) (fun l bx' hR => ?_) (fun d bx' hR => ?_)
  obtain ⟨r_2, rfl, rfl, rfl⟩ := CoR_ret hR
  replace h := hk5 _ rfl
  refine TL_turn [] [2, 3, 4, 10] [] (mk 20 [(2, (rf 5 0)), (3, (rf 6 0)), (4, (rf 31 0)), (10, (.agg (qVal r_2.1)))] [(6, (.var [(.dat (I 0))])), (5, (.var [(.dat (I 0)), (.dat (I 0)), (.dat (.str ([] : List UInt8))), (.dat nilS), (.dat nilS)])), (0, gB0), (1, gB1), (2, gB2), (31, (.var [(.dat (.sl 1 (r_2.2.rest.map elB)))]))]) (by kernel_rfl) ?_
  refine TL_part 1 [] (mk 20 [(2, (rf 5 0)), (3, (rf 6 0)), (4, (rf 31 0)), (10, (.agg (qVal r_2.1)))] [(6, (.var [(.dat (I 0))])), (5, (.var (qVal r_2.1))), (0, gB0), (1, gB1), (2, gB2), (31, (.var [(.dat (.sl 1 (r_2.2.rest.map elB)))]))]) _ (by kernel_rfl) (z2 zt) rfl ?_
  refine TL_nilQ ?_
  refine T_turn [] [2, 3, 4] [] (mk 20 [(2, (rf 5 0)), (3, (rf 6 0)), (4, (rf 31 0))] [(6, (.var [(.dat (I 0))])), (5, (.var (qVal r_2.1))), (0, gB0), (1, gB1), (2, gB2), (31, (.var [(.dat (.sl 1 (r_2.2.rest.map elB)))]))]) (by kernel_rfl) ?_
  refine T_seq (T_parts ?_)
  refine TL_part 7 (hl 6 [(5, (zd (I ((r_2.2.rest.length : Nat) : Int))))]) (mk 20 [(2, (rf 5 0)), (3, (rf 6 0)), (4, (rf 31 0)), (11, (rf 31 0)), (12, (rf 31 0)), (13, (rf 31 0)), (14, (rf 31 0)), (15, (dt (.sl 1 (r_2.2.rest.map elB)))), (16, (di ((r_2.2.rest.length : Nat) : Int))), (17, (db (decide (((r_2.2.rest.length : Nat) : Int) > 0))))] [(6, (.var [(.dat (I 0))])), (5, (.var (qVal r_2.1))), (0, gB0), (1, gB1), (2, gB2), (31, (.var [(.dat (.sl 1 (r_2.2.rest.map elB)))]))]) _ (by kernel_rfl) (z8 (z3 (zc (len_s elB r_2.2.rest) (z2 zt)))) rfl ?_
  refine TL_inlineP 43 33 [] Tryd.f33 _ rfl rfl (by kernel_rfl) Tryd.func33 rfl rfl (by decide) ?_
  refine T_turn [] [0, 1] [] (mk 6 [(0, (rf 31 0)), (1, (db (decide (((r_2.2.rest.length : Nat) : Int) > 0))))] [(6, (.var [(.dat (I 0))])), (5, (.var (qVal r_2.1))), (0, gB0), (1, gB1), (2, gB2), (31, (.var [(.dat (.sl 1 (r_2.2.rest.map elB)))]))]) (by kernel_rfl) ?_
  refine T_reg [] [4] [31] (mk 6 [(4, (db (decide (((r_2.2.rest.length : Nat) : Int) > 0))))] [(6, (.var [(.dat (I 0))])), (5, (.var (qVal r_2.1))), (0, gB0), (1, gB1), (2, gB2)]) _ (by kernel_rfl) (z2 zt) ?_
  refine T_cond (decide (((r_2.2.rest.length : Nat) : Int) > 0)) (by kernel_rfl) (fun b7 => ?_) (fun b7 => ?_)
  replace h := ite_t b7 h
  refine T_parts ?_
  refine TL_part 1 [] (mk 6 [(4, (db (decide (((r_2.2.rest.length : Nat) : Int) > 0)))), (5, (dt (.iface 29 (I 20))))] [(6, (.var [(.dat (I 0))])), (5, (.var (qVal r_2.1))), (0, gB0), (1, gB1), (2, gB2)]) _ (by kernel_rfl) (z2 zt) rfl ?_
  refine TL_panic 29 (I 20) rfl rfl (by kernel_rfl) ?_
  refine ⟨rfl, ?_⟩
  refine ⟨rfl, by kernel_rfl, ?_⟩
  refine T_turn [] [0, 1, 2] [] (mk 9 [(0, (rf 5 0)), (1, (rf 6 0)), (2, (dt (.iface 29 (I 20))))] [(6, (.var [(.dat (I 0))])), (5, (.var (qVal r_2.1))), (0, gB0), (1, gB1), (2, gB2)]) (by kernel_rfl) ?_
  refine T_seq (T_parts ?_)
  refine TL_part 1 [] (mk 9 [(0, (rf 5 0)), (1, (rf 6 0)), (2, (dt (.iface 29 (I 20)))), (4, (dt (.iface 29 (I 20))))] [(6, (.var [(.dat (I 0))])), (5, (.var (qVal r_2.1))), (0, gB0), (1, gB1), (2, gB2)]) _ (by kernel_rfl) (z2 zt) rfl ?_
  refine TL_neNil 20 20 5 true rfl rfl rfl (by kernel_rfl) (.inl ⟨rfl, 29, (I 20), by kernel_rfl⟩) ?_
  refine TL_turn [] [0, 1, 2, 5] [] (mk 9 [(0, (rf 5 0)), (1, (rf 6 0)), (2, (dt (.iface 29 (I 20)))), (5, (db true))] [(6, (.var [(.dat (I 0))])), (5, (.var (qVal r_2.1))), (0, gB0), (1, gB1), (2, gB2)]) (by kernel_rfl) ?_
  refine TL_nilQ ?_
  refine T_turn [] [0, 1, 2, 5] [] (mk 9 [(0, (rf 5 0)), (1, (rf 6 0)), (2, (dt (.iface 29 (I 20)))), (5, (db true))] [(6, (.var [(.dat (I 0))])), (5, (.var (qVal r_2.1))), (0, gB0), (1, gB1), (2, gB2)]) (by kernel_rfl) ?_
  refine T_cond true (by kernel_rfl) (fun _ => ?_) (fun h => absurd (h.symm.trans (rfl : true = true)) (by decide))
  refine T_arr [] [0, 1, 2, 5] [] [0, 1, 2, 5, 6] (mk 9 [(0, (rf 5 0)), (1, (rf 6 0)), (2, (dt (.iface 29 (I 20)))), (5, (db true))] [(0, gB0), (1, gB1), (2, gB2), (5, (.var (qVal r_2.1))), (6, (.var [(.dat (I 0))]))]) (by kernel_rfl) ?_
  refine T_stC [{}, {}, {}, {}, {}] _ [(0, 6, (.agg [(.dat (I 0)), (.dat (I 0)), (.dat (.str ([] : List UInt8))), (.dat nilS), (.dat nilS)])), (1, 7, (dt (.iface 29 (I 20)))), (2, 8, (di 20))] [(3, 5, some (.var [(.dat (I 0)), (.dat (I 0)), (.dat (.str ([] : List UInt8))), (.dat nilS), (.dat nilS)])), (4, 6, some (.var [(.dat (I 20))]))] [0, 1, 2, 5, 6] 5 [0, 0, 2, 1, 15] 28 [0, 4, 8, 12, 28] [2] none (by kernel_rfl) (by decide) (by kernel_rfl) (by kernel_rfl) (by kernel_rfl) (by kernel_rfl) (by kernel_rfl) (by kernel_rfl) (by kernel_rfl) (zs zt (zs zt (zs zt (zs (zc zt zt) (zs (zc zt zt) zS))))) ?_ (fun _ => ?_)
  intro c hc; simp only [List.mem_cons, List.not_mem_nil, or_false] at hc; rcases hc with rfl
  exact ⟨_, rfl, assertU 20 29 (I 20) rfl rfl (td := (.int .i64)) (by kernel_rfl) rfl [0, 1, 2, 5, 6] (by decide) 2 _ _ _ (by kernel_rfl) (by kernel_rfl) (by kernel_rfl)⟩
  obtain rfl := some_inv h
  exact ⟨.inl rfl, (mk 20 [(2, (dt (.ptr [(I 0), (I 0), (.str ([] : List UInt8)), (.sl 5 (([] : List Val).map encVal)), (.sl 1 (([] : List (List UInt8)).map elStr))]))), (3, (dt (.ptr [(I 20)])))] ghosts), arr [.nilC 5 3 5, .nilC 5 4 1, .ice 5, .ice 6] [2, 3] [] [0, 1, 2] (by kernel_rfl), [(.agg [(.dat (I 0)), (.dat (I 0)), (.dat (.str ([] : List UInt8))), (.dat (.sl 5 (([] : List Val).map encVal))), (.dat (.sl 1 (([] : List (List UInt8)).map elStr)))]), (di 20)], by kernel_rfl, rfl⟩
  replace h := ite_f b7 h
  refine T_skip ?_
  refine ⟨[], by kernel_rfl, ?_⟩
  refine TL_turn [] [2, 3, 18] [] (mk 20 [(2, (rf 5 0)), (3, (rf 6 0)), (18, (.tup []))] [(6, (.var [(.dat (I 0))])), (5, (.var (qVal r_2.1))), (0, gB0), (1, gB1), (2, gB2)]) (by kernel_rfl) ?_
  refine TL_nilQ ?_
  refine T_turn [] [2, 3] [] (mk 20 [(2, (rf 5 0)), (3, (rf 6 0))] [(6, (.var [(.dat (I 0))])), (5, (.var (qVal r_2.1))), (0, gB0), (1, gB1), (2, gB2)]) (by kernel_rfl) ?_
  refine T_reg [] [2, 3] [] (mk 20 [(2, (rf 5 0)), (3, (rf 6 0))] [(6, (.var [(.dat (I 0))])), (5, (.var (qVal r_2.1))), (0, gB0), (1, gB1), (2, gB2)]) _ (by kernel_rfl) (z6 zt) ?_
  refine T_ret ?_
  refine ⟨by kernel_rfl, ?_⟩
  refine T_turn [] [0, 1, 2] [] (mk 9 [(0, (rf 5 0)), (1, (rf 6 0)), (2, (dt (.con .nilIface)))] [(6, (.var [(.dat (I 0))])), (5, (.var (qVal r_2.1))), (0, gB0), (1, gB1), (2, gB2)]) (by kernel_rfl) ?_
  refine T_seq (T_parts ?_)
  refine TL_part 1 [] (mk 9 [(0, (rf 5 0)), (1, (rf 6 0)), (2, (dt (.con .nilIface))), (4, (dt (.con .nilIface)))] [(6, (.var [(.dat (I 0))])), (5, (.var (qVal r_2.1))), (0, gB0), (1, gB1), (2, gB2)]) _ (by kernel_rfl) (z2 zt) rfl ?_
  refine TL_neNil 20 20 5 false rfl rfl rfl (by kernel_rfl) (.inr ⟨rfl, by kernel_rfl⟩) ?_
  refine TL_turn [] [0, 1, 2, 5] [] (mk 9 [(0, (rf 5 0)), (1, (rf 6 0)), (2, (dt (.con .nilIface))), (5, (db false))] [(6, (.var [(.dat (I 0))])), (5, (.var (qVal r_2.1))), (0, gB0), (1, gB1), (2, gB2)]) (by kernel_rfl) ?_
  refine TL_nilQ ?_
  refine T_turn [] [0, 1, 2, 5] [] (mk 9 [(0, (rf 5 0)), (1, (rf 6 0)), (2, (dt (.con .nilIface))), (5, (db false))] [(6, (.var [(.dat (I 0))])), (5, (.var (qVal r_2.1))), (0, gB0), (1, gB1), (2, gB2)]) (by kernel_rfl) ?_
  refine T_cond false (by kernel_rfl) (fun h => absurd (h.symm.trans (rfl : false = false)) (by decide)) (fun _ => ?_)
  refine T_skip ?_
  obtain rfl := some_inv h
  exact ⟨.inl rfl, (mk 20 [(2, (dt (.ptr [(I r_2.1.k), (I r_2.1.n), (.str r_2.1.s), (.sl 5 (r_2.1.l.map encVal)), (.sl 1 (r_2.1.ks.map elStr))]))), (3, (dt (.ptr [(I 0)])))] ghosts), arr [.ice 5, .ice 6] [2, 3] [] [0, 1, 2] (by kernel_rfl), [(.agg (qVal r_2.1)), (di 0)], by kernel_rfl, rfl⟩
  obtain ⟨rfl, rfl, hlk⟩ := CoR_pan hR
  replace h := hz6 rfl
  refine ⟨rfl, by kernel_rfl, ?_⟩
  refine T_le (DS.le_pick _ [(0, gB0), (1, gB1), (2, gB2), (5, (.var [(.dat (I 0)), (.dat (I 0)), (.dat (.str ([] : List UInt8))), (.dat nilS), (.dat nilS)])), (6, (.var [(.dat (I 0))]))] (by decide) ?_) ?_
  intro p hp; simp only [List.mem_cons, List.not_mem_nil, or_false] at hp; rcases hp with rfl | rfl | rfl | rfl | rfl
  exact (after_lk (by kernel_rfl) rfl).trans (by rw [hlk 0 (by decide)]; kernel_rfl)
  exact (after_lk (by kernel_rfl) rfl).trans (by rw [hlk 1 (by decide)]; kernel_rfl)
  exact (after_lk (by kernel_rfl) rfl).trans (by rw [hlk 2 (by decide)]; kernel_rfl)
  kernel_rfl
  kernel_rfl
  refine T_turn [] [0, 1, 2] [] (mk 9 [(0, (rf 5 0)), (1, (rf 6 0)), (2, (dt (.iface 29 (I 20))))] [(0, gB0), (1, gB1), (2, gB2), (5, (.var [(.dat (I 0)), (.dat (I 0)), (.dat (.str ([] : List UInt8))), (.dat nilS), (.dat nilS)])), (6, (.var [(.dat (I 0))]))]) (by kernel_rfl) ?_
  refine T_seq (T_parts ?_)
  refine TL_part 1 [] (mk 9 [(0, (rf 5 0)), (1, (rf 6 0)), (2, (dt (.iface 29 (I 20)))), (4, (dt (.iface 29 (I 20))))] [(0, gB0), (1, gB1), (2, gB2), (5, (.var [(.dat (I 0)), (.dat (I 0)), (.dat (.str ([] : List UInt8))), (.dat nilS), (.dat nilS)])), (6, (.var [(.dat (I 0))]))]) _ (by kernel_rfl) (z2 zt) rfl ?_
  refine TL_neNil 20 20 5 true rfl rfl rfl (by kernel_rfl) (.inl ⟨rfl, 29, (I 20), by kernel_rfl⟩) ?_
  refine TL_turn [] [0, 1, 2, 5] [] (mk 9 [(0, (rf 5 0)), (1, (rf 6 0)), (2, (dt (.iface 29 (I 20)))), (5, (db true))] [(0, gB0), (1, gB1), (2, gB2), (5, (.var [(.dat (I 0)), (.dat (I 0)), (.dat (.str ([] : List UInt8))), (.dat nilS), (.dat nilS)])), (6, (.var [(.dat (I 0))]))]) (by kernel_rfl) ?_
  refine TL_nilQ ?_
  refine T_turn [] [0, 1, 2, 5] [] (mk 9 [(0, (rf 5 0)), (1, (rf 6 0)), (2, (dt (.iface 29 (I 20)))), (5, (db true))] [(0, gB0), (1, gB1), (2, gB2), (5, (.var [(.dat (I 0)), (.dat (I 0)), (.dat (.str ([] : List UInt8))), (.dat nilS), (.dat nilS)])), (6, (.var [(.dat (I 0))]))]) (by kernel_rfl) ?_
  refine T_cond true (by kernel_rfl) (fun _ => ?_) (fun h => absurd (h.symm.trans (rfl : true = true)) (by decide))
  refine T_arr [] [0, 1, 2, 5] [] [0, 1, 2, 5, 6] (mk 9 [(0, (rf 5 0)), (1, (rf 6 0)), (2, (dt (.iface 29 (I 20)))), (5, (db true))] [(0, gB0), (1, gB1), (2, gB2), (5, (.var [(.dat (I 0)), (.dat (I 0)), (.dat (.str ([] : List UInt8))), (.dat nilS), (.dat nilS)])), (6, (.var [(.dat (I 0))]))]) (by kernel_rfl) ?_
  refine T_stC [{}, {}, {}, {}, {}] _ [(0, 6, (.agg [(.dat (I 0)), (.dat (I 0)), (.dat (.str ([] : List UInt8))), (.dat nilS), (.dat nilS)])), (1, 7, (dt (.iface 29 (I 20)))), (2, 8, (di 20))] [(4, 6, some (.var [(.dat (I 20))]))] [0, 1, 2, 5, 6] 5 [0, 0, 2, 1, 15] 28 [0, 4, 8, 12, 28] [2] none (by kernel_rfl) (by decide) (by kernel_rfl) (by kernel_rfl) (by kernel_rfl) (by kernel_rfl) (by kernel_rfl) (by kernel_rfl) (by kernel_rfl) (zs zt (zs zt (zs zt (zs (zc zt zt) (zs (zc zt zt) zS))))) ?_ (fun _ => ?_)
  intro c hc; simp only [List.mem_cons, List.not_mem_nil, or_false] at hc; rcases hc with rfl
  exact ⟨_, rfl, assertU 20 29 (I 20) rfl rfl (td := (.int .i64)) (by kernel_rfl) rfl [0, 1, 2, 5, 6] (by decide) 2 _ _ _ (by kernel_rfl) (by kernel_rfl) (by kernel_rfl)⟩
  obtain rfl := some_inv h
  exact ⟨.inl rfl, (mk 20 [(2, (dt (.ptr [(I 0), (I 0), (.str ([] : List UInt8)), (.sl 5 (([] : List Val).map encVal)), (.sl 1 (([] : List (List UInt8)).map elStr))]))), (3, (dt (.ptr [(I 20)])))] ghosts), arr [.nilC 5 3 5, .nilC 5 4 1, .ice 5, .ice 6] [2, 3] [] [0, 1, 2] (by kernel_rfl), [(.agg [(.dat (I 0)), (.dat (I 0)), (.dat (.str ([] : List UInt8))), (.dat (.sl 5 (([] : List Val).map encVal))), (.dat (.sl 1 (([] : List (List UInt8)).map elStr)))]), (di 20)], by kernel_rfl, rfl⟩

end Go.Proofs.YtimalbkjflfdoaaDoor

namespace Go.Proofs.YtimalbkjflfdoaaDoor
open Go.DL
set_option maxRecDepth 100000
set_option maxHeartbeats 4000000
noncomputable def g_strconv_AppendInt_j1 (base_3 : Int) (u_4 : Int) (l_5 : List UInt8) : Option ((List UInt8) ⊕ Unit) :=
  ck (l_5.length + 20 ≤ 140737488355328) <| ck ((0 : Int) ≤ u_4 ∧ (u_4 : Int) < 18446744073709551616) <| ck ((base_3 : Int) = 10) <| some (.inl (l_5 ++ Lib.decDigits u_4.toNat))
noncomputable def g_strconv_AppendInt (dst_1 : List UInt8) (i_2 : Int) (base_3 : Int) : Option ((List UInt8) ⊕ Unit) :=
  if (decide (i_2 < 0)) = true then (ck ((dst_1.length + ([45] : List UInt8).length) * 1 ≤ 140737488355328) <| g_strconv_AppendInt_j1 base_3 (IntKind.u64.wrap (0 - (IntKind.u64.wrap i_2))) (dst_1 ++ ([45] : List UInt8))) else g_strconv_AppendInt_j1 base_3 (IntKind.u64.wrap i_2) dst_1
noncomputable def g_codec_text (b_1 : List UInt8) (s_2 : List UInt8) : Option ((List UInt8) ⊕ Unit) :=
  bdP (g_strconv_AppendInt b_1 ((s_2.length : Nat) : Int) 10) (fun r_3 => ck ((r_3.length + ([58] : List UInt8).length) * 1 ≤ 140737488355328) <| ck (((r_3 ++ ([58] : List UInt8)).length + s_2.length) * 1 ≤ 140737488355328) <| some (.inl ((r_3 ++ ([58] : List UInt8)) ++ s_2))) (some (.inr ()))
noncomputable def g_codec_newWriter_1 (b_1 : List UInt8) (v_2 : Val) : Option ((List UInt8) ⊕ Unit) :=
  ck ((b_1.length + ([105] : List UInt8).length) * 1 ≤ 140737488355328) <| bdP (g_strconv_AppendInt (b_1 ++ ([105] : List UInt8)) v_2.n 10) (fun r_4 => ck ((r_4.length + ([101] : List UInt8).length) * 1 ≤ 140737488355328) <| some (.inl (r_4 ++ ([101] : List UInt8)))) (some (.inr ()))
noncomputable def g_codec_newWriter_2 (b_1 : List UInt8) (v_2 : Val) : Option ((List UInt8) ⊕ Unit) :=
  bdP (g_codec_text b_1 v_2.s) (fun r_3 => some (.inl r_3)) (some (.inr ()))
noncomputable def g_codec_newWriter_3_s_j1 (l_4 : List UInt8) : Option ((List UInt8) ⊕ Unit) :=
  ck ((l_4.length + ([101] : List UInt8).length) * 1 ≤ 140737488355328) <| some (.inl (l_4 ++ ([101] : List UInt8)))
noncomputable def g_codec_newWriter_3_s_j3 (v_6 : Nat) (v_2 : Val) (l_11 : List UInt8) : Option ((Nat × (List UInt8)) ⊕ ((List UInt8) ⊕ Unit)) :=
  ckI (((v_6 : Nat) : Int) + 1) <| some (.inl (v_6 + 1, l_11))
noncomputable def g_codec_newWriter_3_s_l2 (v_2 : Val) (rc43 : (List UInt8) → (Val) → Option ((List UInt8) ⊕ Unit)) (rc44 : (List UInt8) → (Val) → Option ((List UInt8) ⊕ Unit)) (v : Nat × (List UInt8)) : Option ((Nat × (List UInt8)) ⊕ ((List UInt8) ⊕ Unit)) :=
  match v with | (v_6, l_7) => if (decide (((v_6 : Nat) : Int) < ((v_2.l.length : Nat) : Int))) = true then (gn v_2.l v_6 fun x_13 => if (x_13.k == 0) = true then (ck False none) else if (x_13.k == 1) = true then (bdP (g_codec_newWriter_1 l_7 x_13) (fun r_19 => g_codec_newWriter_3_s_j3 v_6 v_2 r_19) (up (some (.inr ())))) else if (x_13.k == 2) = true then (bdP (g_codec_newWriter_2 l_7 x_13) (fun r_25 => g_codec_newWriter_3_s_j3 v_6 v_2 r_25) (up (some (.inr ())))) else if (x_13.k == 3) = true then (bdP (rc43 l_7 x_13) (fun r_31 => g_codec_newWriter_3_s_j3 v_6 v_2 r_31) (up (some (.inr ())))) else ck ((x_13.k : Int) = 4) <| bdP (rc44 l_7 x_13) (fun r_37 => g_codec_newWriter_3_s_j3 v_6 v_2 r_37) (up (some (.inr ())))) else up (g_codec_newWriter_3_s_j1 l_7)
noncomputable def g_codec_newWriter_3_s (rc43 rc44 : (List UInt8) → (Val) → Option ((List UInt8) ⊕ Unit)) (b_1 : List UInt8) (v_2 : Val) : Option ((List UInt8) ⊕ Unit) :=
  ck ((b_1.length + ([108] : List UInt8).length) * 1 ≤ 140737488355328) <| loopO (g_codec_newWriter_3_s_l2 v_2 rc43 rc44) (0, (b_1 ++ ([108] : List UInt8)))
noncomputable def g_codec_newWriter_4_s_j1 (l_4 : List UInt8) : Option ((List UInt8) ⊕ Unit) :=
  ck ((l_4.length + ([101] : List UInt8).length) * 1 ≤ 140737488355328) <| some (.inl (l_4 ++ ([101] : List UInt8)))
noncomputable def g_codec_newWriter_4_s_j3 (v_6 : Nat) (v_2 : Val) (l_11 : List UInt8) : Option ((Nat × (List UInt8)) ⊕ ((List UInt8) ⊕ Unit)) :=
  ckI (((v_6 : Nat) : Int) + 1) <| some (.inl (v_6 + 1, l_11))
noncomputable def g_codec_newWriter_4_s_l2 (v_2 : Val) (rc43 : (List UInt8) → (Val) → Option ((List UInt8) ⊕ Unit)) (rc44 : (List UInt8) → (Val) → Option ((List UInt8) ⊕ Unit)) (v : Nat × (List UInt8)) : Option ((Nat × (List UInt8)) ⊕ ((List UInt8) ⊕ Unit)) :=
  match v with | (v_6, l_7) => if (decide (((v_6 : Nat) : Int) < ((v_2.l.length : Nat) : Int))) = true then (gn v_2.l v_6 fun x_13 => if (x_13.k == 0) = true then (gn v_2.ks v_6 fun x_18 => bdP (g_codec_text l_7 x_18) (fun r_22 => ck False none) (up (some (.inr ())))) else if (x_13.k == 1) = true then (gn v_2.ks v_6 fun x_28 => bdP (g_codec_text l_7 x_28) (fun r_32 => bdP (g_codec_newWriter_1 r_32 x_13) (fun r_37 => g_codec_newWriter_4_s_j3 v_6 v_2 r_37) (up (some (.inr ())))) (up (some (.inr ())))) else if (x_13.k == 2) = true then (gn v_2.ks v_6 fun x_43 => bdP (g_codec_text l_7 x_43) (fun r_47 => bdP (g_codec_newWriter_2 r_47 x_13) (fun r_52 => g_codec_newWriter_4_s_j3 v_6 v_2 r_52) (up (some (.inr ())))) (up (some (.inr ())))) else if (x_13.k == 3) = true then (gn v_2.ks v_6 fun x_58 => bdP (g_codec_text l_7 x_58) (fun r_62 => bdP (rc43 r_62 x_13) (fun r_67 => g_codec_newWriter_4_s_j3 v_6 v_2 r_67) (up (some (.inr ())))) (up (some (.inr ())))) else ck ((x_13.k : Int) = 4) <| gn v_2.ks v_6 fun x_73 => bdP (g_codec_text l_7 x_73) (fun r_77 => bdP (rc44 r_77 x_13) (fun r_82 => g_codec_newWriter_4_s_j3 v_6 v_2 r_82) (up (some (.inr ())))) (up (some (.inr ())))) else up (g_codec_newWriter_4_s_j1 l_7)
noncomputable def g_codec_newWriter_4_s (rc43 rc44 : (List UInt8) → (Val) → Option ((List UInt8) ⊕ Unit)) (b_1 : List UInt8) (v_2 : Val) : Option ((List UInt8) ⊕ Unit) :=
  ck ((b_1.length + ([100] : List UInt8).length) * 1 ≤ 140737488355328) <| loopO (g_codec_newWriter_4_s_l2 v_2 rc43 rc44) (0, (b_1 ++ ([100] : List UInt8)))
end Go.Proofs.YtimalbkjflfdoaaDoor

namespace Go.Proofs.YtimalbkjflfdoaaDoor
open Go.DL
set_option maxRecDepth 100000
set_option maxHeartbeats 4000000
theorem g_strconv_AppendInt_ret {dst_1 : List UInt8} {i_2 : Int} {base_3 : Int} {r : (List UInt8) ⊕ Unit} (h : g_strconv_AppendInt dst_1 i_2 base_3 = some r) : CT Tryd.prog 40 4 [(ow 3), (di i_2), (di base_3)] [(0, gB0), (1, gB1), (2, gB2), (3, (.row 5 1 (dst_1.map elB)))] (CoR 3 ghosts (fun x => ((ow 4), [(0, gB0), (1, gB1), (2, gB2), (4, (.row 5 1 (x.map elB)))])) (.iface 29 (.int .i64 20)) r) := by
  refine CT.of_T Tryd.func40 (by kernel_rfl) rfl ?_
  refine T_turn [] [0, 1, 2] [] (mk 11 [(0, (ow 3)), (1, (di i_2)), (2, (di base_3))] [(0, gB0), (1, gB1), (2, gB2), (3, (.row 5 1 (dst_1.map elB)))]) (by kernel_rfl) ?_
  refine T_reg [] [0, 1, 2] [] (mk 11 [(0, (ow 3)), (1, (di i_2)), (2, (di base_3))] [(0, gB0), (1, gB1), (2, gB2), (3, (.row 5 1 (dst_1.map elB)))]) _ (by kernel_rfl) (z2 zt) ?_
  refine T_seq (T_parts ?_)
  refine TL_part 3 [] (mk 11 [(0, (ow 3)), (1, (di i_2)), (2, (di base_3)), (7, (ow 3)), (8, (di i_2)), (9, (di base_3))] [(0, gB0), (1, gB1), (2, gB2), (3, (.row 5 1 (dst_1.map elB)))]) _ (by kernel_rfl) (z6 zt) rfl ?_
  refine TL_inlineP 15 54 [] Tryd.f54 _ rfl rfl (by kernel_rfl) Tryd.func54 rfl rfl (by decide) ?_
  refine T_turn [] [0, 1, 2] [] (mk 21 [(0, (ow 3)), (1, (di i_2)), (2, (di base_3))] [(0, gB0), (1, gB1), (2, gB2), (3, (.row 5 1 (dst_1.map elB)))]) (by kernel_rfl) ?_
  refine T_reg [] [0, 1, 2] [] (mk 21 [(0, (ow 3)), (1, (di i_2)), (2, (di base_3))] [(0, gB0), (1, gB1), (2, gB2), (3, (.row 5 1 (dst_1.map elB)))]) _ (by kernel_rfl) (z2 zt) ?_
  refine T_reg [] [0, 1, 2, 7] [] (mk 21 [(0, (ow 3)), (1, (di i_2)), (2, (di base_3)), (7, (dt (.int .u64 (IntKind.u64.wrap i_2))))] [(0, gB0), (1, gB1), (2, gB2), (3, (.row 5 1 (dst_1.map elB)))]) _ (by kernel_rfl) (z6 zt) ?_
  refine T_seqJ (α := Int × (List UInt8)) (fun ((u_4, l_5) : Int × (List UInt8)) => (mk 21 [(0, (ow 29)), (2, (di base_3)), (7, (dt (.int .u64 u_4)))] [(0, gB0), (1, gB1), (2, gB2), (29, (.row 5 1 (l_5.map elB)))])) (fun ((u_4, l_5) : Int × (List UInt8)) => g_strconv_AppendInt_j1 base_3 u_4 l_5 = some r) (fun v h => ?_) ?_
  obtain ⟨u_4, l_5⟩ := v
  refine T_seq (T_parts ?_)
  refine TL_part 3 [] (mk 21 [(0, (ow 29)), (2, (di base_3)), (7, (dt (.int .u64 u_4))), (17, (ow 29)), (18, (dt (.int .u64 u_4))), (19, (di base_3))] [(0, gB0), (1, gB1), (2, gB2), (29, (.row 5 1 (l_5.map elB)))]) _ (by kernel_rfl) (z6 zt) rfl ?_
  obtain ⟨c6, h⟩ := ck_inv h
  obtain ⟨c7, h⟩ := ck_inv h
  obtain ⟨c8, h⟩ := ck_inv h
  refine TL_appUint Tryd.lappend 20 0 35 (some 29) l_5 u_4 c8 rfl rfl rfl (by kernel_rfl) (by kernel_rfl) (by kernel_rfl) (by kernel_rfl) c7 (by kernel_rfl) c6 (by kernel_rfl) ?_
  refine TL_turn [] [20] [] (mk 21 [(20, (ow 35))] [(35, (.row 5 1 ((l_5 ++ Lib.decDigits u_4.toNat).map elB))), (0, gB0), (1, gB1), (2, gB2)]) (by kernel_rfl) ?_
  refine TL_part 1 [] (mk 21 [(6, (ow 35)), (20, (ow 35))] [(35, (.row 5 1 ((l_5 ++ Lib.decDigits u_4.toNat).map elB))), (0, gB0), (1, gB1), (2, gB2)]) _ (by kernel_rfl) (z2 zt) rfl ?_
  refine TL_nilQ ?_
  refine T_turn [] [6] [] (mk 21 [(6, (ow 35))] [(35, (.row 5 1 ((l_5 ++ Lib.decDigits u_4.toNat).map elB))), (0, gB0), (1, gB1), (2, gB2)]) (by kernel_rfl) ?_
  refine T_ret ?_
  refine ⟨[(ow 35)], by kernel_rfl, ?_⟩
  refine TL_turn [] [10] [] (mk 11 [(10, (ow 35))] [(35, (.row 5 1 ((l_5 ++ Lib.decDigits u_4.toNat).map elB))), (0, gB0), (1, gB1), (2, gB2)]) (by kernel_rfl) ?_
  refine TL_part 1 [] (mk 11 [(6, (ow 35)), (10, (ow 35))] [(35, (.row 5 1 ((l_5 ++ Lib.decDigits u_4.toNat).map elB))), (0, gB0), (1, gB1), (2, gB2)]) _ (by kernel_rfl) (z2 zt) rfl ?_
  refine TL_nilQ ?_
  refine T_turn [] [6] [] (mk 11 [(6, (ow 35))] [(35, (.row 5 1 ((l_5 ++ Lib.decDigits u_4.toNat).map elB))), (0, gB0), (1, gB1), (2, gB2)]) (by kernel_rfl) ?_
  refine T_arr [.ren 35 4] [6] [35] [0, 1, 2, 4] (mk 11 [(6, (ow 4))] [(0, gB0), (1, gB1), (2, gB2), (4, (.row 5 1 ((l_5 ++ Lib.decDigits u_4.toNat).map elB)))]) (by kernel_rfl) ?_
  refine T_ret ?_
  obtain rfl := some_inv h
  exact ⟨[(ow 4)], by kernel_rfl, rfl⟩
  refine T_reg [] [0, 2, 7, 11] [] (mk 21 [(0, (ow 3)), (2, (di base_3)), (7, (dt (.int .u64 (IntKind.u64.wrap i_2)))), (11, (db (decide (i_2 < 0))))] [(0, gB0), (1, gB1), (2, gB2), (3, (.row 5 1 (dst_1.map elB)))]) _ (by kernel_rfl) (z4 zt) ?_
  refine T_cond (decide (i_2 < 0)) (by kernel_rfl) (fun b9 => ?_) (fun b9 => ?_)
  replace h := ite_t b9 h
  obtain ⟨c10, h⟩ := ck_inv h
  refine T_reg [zn, zn, (zd (.sl 1 ((dst_1 ++ ([45] : List UInt8)).map elB)))] [0, 2, 7] [28] (mk 21 [(0, (ow 29)), (2, (di base_3)), (7, (dt (.int .u64 (IntKind.u64.wrap i_2))))] [(29, (.row 5 1 ((dst_1 ++ ([45] : List UInt8)).map elB))), (0, gB0), (1, gB1), (2, gB2)]) _ (by kernel_rfl) (z3 (zc (show dfill (fun i => some (i * 1, 1)) (List.replicate (1 * 1) .junk) [(0, [(.dat (.int .u8 45))])] = some ((flat (([45] : List UInt8).map elB)).map .dat) from rfl) (z1 (zc (app_s elB elB_one dst_1 ([45] : List UInt8) c10) (z2 zt))))) ?_
  exact T_regJ [] [] [0, 2, 7] [] [0, 1, 2, 29] _ _ (by kernel_rfl) (z6 zt) (fun s hs => Exists.intro ((IntKind.u64.wrap (0 - (IntKind.u64.wrap i_2))), (dst_1 ++ ([45] : List UInt8))) (And.intro h hs))
  replace h := ite_f b9 h
  refine T_skip ?_
  exact Exists.intro ((IntKind.u64.wrap i_2), dst_1) (And.intro h (arr [.ren 3 29] [0, 2, 7] [] [0, 1, 2, 29] (by kernel_rfl)))

theorem g_codec_text_ret {b_1 : List UInt8} {s_2 : List UInt8} {r : (List UInt8) ⊕ Unit} (h : g_codec_text b_1 s_2 = some r) : CT Tryd.prog 42 4 [(ow 3), (dt (.str s_2))] [(0, gB0), (1, gB1), (2, gB2), (3, (.row 5 1 (b_1.map elB)))] (CoR 3 ghosts (fun x => ((ow 4), [(0, gB0), (1, gB1), (2, gB2), (4, (.row 5 1 (x.map elB)))])) (.iface 29 (.int .i64 20)) r) := by
  refine CT.of_T Tryd.func42 (by kernel_rfl) rfl ?_
  refine T_turn [] [0, 1] [] (mk 13 [(0, (ow 3)), (1, (dt (.str s_2)))] [(0, gB0), (1, gB1), (2, gB2), (3, (.row 5 1 (b_1.map elB)))]) (by kernel_rfl) ?_
  refine T_reg [] [0, 1] [] (mk 13 [(0, (ow 3)), (1, (dt (.str s_2)))] [(0, gB0), (1, gB1), (2, gB2), (3, (.row 5 1 (b_1.map elB)))]) _ (by kernel_rfl) (z2 zt) ?_
  refine T_seq (T_parts ?_)
  refine TL_part 3 [] (mk 13 [(0, (ow 3)), (1, (dt (.str s_2))), (5, (ow 3)), (6, (dt (.str s_2))), (7, (di ((s_2.length : Nat) : Int)))] [(0, gB0), (1, gB1), (2, gB2), (3, (.row 5 1 (b_1.map elB)))]) _ (by kernel_rfl) (z6 zt) rfl ?_
  obtain ⟨y4, e5, hk6, hz7⟩ := bdP_inv h
  refine TL_ct 40 [0, 1, 2, 3] 100004 _ _ [] (g_strconv_AppendInt_ret e5) rfl rfl (by kernel_rfl) (by kernel_rfl) (by kernel_rfl) (by kernel_rfl) (fun l bx' hR => ?_) (fun d bx' hR => ?_)
  obtain ⟨r_3, rfl, rfl, rfl⟩ := CoR_ret hR
  replace h := hk6 _ rfl
  refine TL_turn [] [1, 8] [] (mk 13 [(1, (dt (.str s_2))), (8, (ow 100004))] [(0, gB0), (1, gB1), (2, gB2), (100004, (.row 5 1 (r_3.map elB)))]) (by kernel_rfl) ?_
  obtain ⟨c8, h⟩ := ck_inv h
  obtain ⟨c9, h⟩ := ck_inv h
  refine TL_part 5 [zn, (zd (.sl 1 ((r_3 ++ ([58] : List UInt8)).map elB))), zn, (zd (.sl 1 (((r_3 ++ ([58] : List UInt8)) ++ s_2).map elB)))] (mk 13 [(1, (dt (.str s_2))), (4, (ow 16)), (9, (ow 13)), (11, (dt (.str s_2))), (12, (ow 16))] [(16, (.row 5 1 (((r_3 ++ ([58] : List UInt8)) ++ s_2).map elB))), (13, (.row 5 1 (([58] : List UInt8).map elB))), (0, gB0), (1, gB1), (2, gB2)]) _ (by kernel_rfl) (z1 (zc (show dfill (fun i => some (i * 1, 1)) (List.replicate (1 * 1) .junk) [(0, [(.dat (.int .u8 58))])] = some ((flat (([58] : List UInt8).map elB)).map .dat) from rfl) (z1 (zc (app_s elB elB_one r_3 ([58] : List UInt8) c8) (z3 (zc (app_s elB elB_one (r_3 ++ ([58] : List UInt8)) s_2 c9) (z2 zt))))))) rfl ?_
  refine TL_nilQ ?_
  refine T_turn [] [4] [13] (mk 13 [(4, (ow 16))] [(16, (.row 5 1 (((r_3 ++ ([58] : List UInt8)) ++ s_2).map elB))), (0, gB0), (1, gB1), (2, gB2)]) (by kernel_rfl) ?_
  refine T_arr [.ren 16 4] [4] [16] [0, 1, 2, 4] (mk 13 [(4, (ow 4))] [(0, gB0), (1, gB1), (2, gB2), (4, (.row 5 1 (((r_3 ++ ([58] : List UInt8)) ++ s_2).map elB)))]) (by kernel_rfl) ?_
  refine T_ret ?_
  obtain rfl := some_inv h
  exact ⟨[(ow 4)], by kernel_rfl, rfl⟩
  obtain ⟨rfl, rfl, hlk⟩ := CoR_pan hR
  replace h := hz7 rfl
  obtain rfl := some_inv h
  exact (show _ ∧ _ from ⟨rfl, ⟨_, rfl, lk3 ((after_lk (by kernel_rfl) rfl).trans (by rw [hlk 0 (by decide)]; kernel_rfl)) ((after_lk (by kernel_rfl) rfl).trans (by rw [hlk 1 (by decide)]; kernel_rfl)) ((after_lk (by kernel_rfl) rfl).trans (by rw [hlk 2 (by decide)]; kernel_rfl))⟩⟩)

theorem g_codec_newWriter_1_ret {b_1 : List UInt8} {v_2 : Val} {r : (List UInt8) ⊕ Unit} (h : g_codec_newWriter_1 b_1 v_2 = some r) : CT Tryd.prog 39 4 [(ow 3), (.agg (qVal v_2))] [(0, gB0), (1, gB1), (2, gB2), (3, (.row 5 1 (b_1.map elB)))] (CoR 3 ghosts (fun x => ((ow 4), [(0, gB0), (1, gB1), (2, gB2), (4, (.row 5 1 (x.map elB)))])) (.iface 29 (.int .i64 20)) r) := by
  refine CT.of_T Tryd.func39 (by kernel_rfl) rfl ?_
  refine T_turn [] [0, 1] [] (mk 13 [(0, (ow 3)), (1, (.agg (qVal v_2)))] [(0, gB0), (1, gB1), (2, gB2), (3, (.row 5 1 (b_1.map elB)))]) (by kernel_rfl) ?_
  refine T_reg [] [0, 3] [] (mk 13 [(0, (ow 3)), (3, (rf 7 0))] [(7, (.var (qVal v_2))), (0, gB0), (1, gB1), (2, gB2), (3, (.row 5 1 (b_1.map elB)))]) _ (by kernel_rfl) (z4 zt) ?_
  refine T_arr [] [0, 3] [] [0, 1, 2, 3, 7] (mk 13 [(0, (ow 3)), (3, (rf 7 0))] [(0, gB0), (1, gB1), (2, gB2), (3, (.row 5 1 (b_1.map elB))), (7, (.var (qVal v_2)))]) (by kernel_rfl) ?_
  obtain ⟨c3, h⟩ := ck_inv h
  obtain ⟨y5, e6, hk7, hz8⟩ := bdP_inv h
  rcases y5 with r_4 | u
  replace h := hk7 _ rfl
  obtain ⟨c9, h⟩ := ck_inv h
  refine T_seq (T_stC [{}, {}, { h := zd (.sl 1 ((b_1 ++ ([105] : List UInt8)).map elB)) }, {}, {}, {}, {}, { h := zd (.sl 1 ((r_4 ++ ([101] : List UInt8)).map elB)) }, {}] _ [(0, 5, (ow 3)), (1, 6, (ow 10)), (2, 0, J), (2, 5, J), (2, 7, (ow 11)), (3, 8, (rf 7 1)), (4, 9, (di v_2.n)), (5, 7, J), (5, 10, (ow 100004)), (6, 11, (ow 15)), (7, 10, J), (7, 12, (ow 16)), (8, 4, (ow 16))] [(1, 10, some (.row 5 1 (([105] : List UInt8).map elB))), (2, 3, none), (2, 11, some (.row 5 1 ((b_1 ++ ([105] : List UInt8)).map elB))), (5, 11, none), (5, 100004, some (.row 5 1 (r_4.map elB))), (6, 15, some (.row 5 1 (([101] : List UInt8).map elB))), (7, 16, some (.row 5 1 ((r_4 ++ ([101] : List UInt8)).map elB))), (7, 100004, none)] [0, 1, 2, 3, 7, 10, 11, 15, 16, 100004] 9 [0, 0, 3, 0, 8, 31, 0, 127, 255] 230 [0, 2, 6, 38, 64, 66, 70, 102, 230] [5] none (by kernel_rfl) (by decide) (by kernel_rfl) (by kernel_rfl) (by kernel_rfl) (by kernel_rfl) (by kernel_rfl) (by kernel_rfl) (by kernel_rfl) (zs zt (zs (zc zt (show dfill (fun i => some (i * 1, 1)) (List.replicate (1 * 1) .junk) [(0, [(.dat (.int .u8 105))])] = some ((flat (([105] : List UInt8).map elB)).map .dat) from rfl)) (zs (zc zt (app_s elB elB_one b_1 ([105] : List UInt8) c3)) (zs zt (zs zt (zs zt (zs (zc zt (show dfill (fun i => some (i * 1, 1)) (List.replicate (1 * 1) .junk) [(0, [(.dat (.int .u8 101))])] = some ((flat (([101] : List UInt8).map elB)).map .dat) from rfl)) (zs (zc zt (app_s elB elB_one r_4 ([101] : List UInt8) c9)) (zs zt zS))))))))) ?_ (fun _ => ?_))
  intro c hc; simp only [List.mem_cons, List.not_mem_nil, or_false] at hc; rcases hc with rfl
  exact ⟨_, rfl, callU (hand := [0, 1, 2, 11]) (nb := 100004) [] (g_strconv_AppendInt_ret e6) [0, 1, 2, 3, 7, 10, 11, 15, 16, 100004] (by decide) rfl rfl 5 _ _ _ (by kernel_rfl) (by kernel_rfl) (by kernel_rfl) (by kernel_rfl) (by kernel_rfl) (by kernel_rfl)⟩
  refine T_turn [] [4] [7, 10, 15] (mk 13 [(4, (ow 16))] [(0, gB0), (1, gB1), (2, gB2), (16, (.row 5 1 ((r_4 ++ ([101] : List UInt8)).map elB)))]) (by kernel_rfl) ?_
  refine T_arr [.ren 16 4] [4] [16] [0, 1, 2, 4] (mk 13 [(4, (ow 4))] [(0, gB0), (1, gB1), (2, gB2), (4, (.row 5 1 ((r_4 ++ ([101] : List UInt8)).map elB)))]) (by kernel_rfl) ?_
  refine T_ret ?_
  obtain rfl := some_inv h
  exact ⟨[(ow 4)], by kernel_rfl, rfl⟩
  replace h := hz8 rfl
  obtain rfl := some_inv h
  refine T_seq (T_stC [{}, {}, { h := zd (.sl 1 ((b_1 ++ ([105] : List UInt8)).map elB)) }, {}, {}, {}, {}, {}, {}] _ [(0, 5, (ow 3)), (1, 6, (ow 10)), (2, 0, J), (2, 5, J), (2, 7, (ow 11)), (3, 8, (rf 7 1)), (4, 9, (di v_2.n)), (6, 11, (ow 15))] [(1, 10, some (.row 5 1 (([105] : List UInt8).map elB))), (2, 3, none), (2, 11, some (.row 5 1 ((b_1 ++ ([105] : List UInt8)).map elB))), (6, 15, some (.row 5 1 (([101] : List UInt8).map elB)))] [0, 1, 2, 3, 7, 10, 11, 15] 9 [0, 0, 3, 0, 8, 31, 0, 127, 255] 486 [0, 2, 6, 64, 66, 70] [5] (some 5) (by kernel_rfl) (by decide) (by kernel_rfl) (by kernel_rfl) (by kernel_rfl) (by kernel_rfl) (by kernel_rfl) (by kernel_rfl) (by kernel_rfl) (zs zt (zs (zc zt (show dfill (fun i => some (i * 1, 1)) (List.replicate (1 * 1) .junk) [(0, [(.dat (.int .u8 105))])] = some ((flat (([105] : List UInt8).map elB)).map .dat) from rfl)) (zs (zc zt (app_s elB elB_one b_1 ([105] : List UInt8) c3)) (zs zt (zs zt (zs zt (zs (zc zt (show dfill (fun i => some (i * 1, 1)) (List.replicate (1 * 1) .junk) [(0, [(.dat (.int .u8 101))])] = some ((flat (([101] : List UInt8).map elB)).map .dat) from rfl)) (zs zt (zs zt zS))))))))) ?_ (fun h => absurd h (by decide)))
  intro c hc; simp only [List.mem_cons, List.not_mem_nil, or_false] at hc; rcases hc with rfl
  refine ⟨_, rfl, callP (hand := [0, 1, 2, 11]) (nb := 100004) [] (g_strconv_AppendInt_ret e6) rfl rfl 5 _ _ _ (by kernel_rfl) (by kernel_rfl) (by kernel_rfl) (by kernel_rfl) (fun _ _ hlk => ?_)⟩
  exact (show _ ∧ _ from ⟨rfl, ⟨_, rfl, lk3 ((after_lk (by kernel_rfl) rfl).trans (by rw [hlk 0 (by decide)]; kernel_rfl)) ((after_lk (by kernel_rfl) rfl).trans (by rw [hlk 1 (by decide)]; kernel_rfl)) ((after_lk (by kernel_rfl) rfl).trans (by rw [hlk 2 (by decide)]; kernel_rfl))⟩⟩)

theorem g_codec_newWriter_2_ret {b_1 : List UInt8} {v_2 : Val} {r : (List UInt8) ⊕ Unit} (h : g_codec_newWriter_2 b_1 v_2 = some r) : CT Tryd.prog 41 4 [(ow 3), (.agg (qVal v_2))] [(0, gB0), (1, gB1), (2, gB2), (3, (.row 5 1 (b_1.map elB)))] (CoR 3 ghosts (fun x => ((ow 4), [(0, gB0), (1, gB1), (2, gB2), (4, (.row 5 1 (x.map elB)))])) (.iface 29 (.int .i64 20)) r) := by
  refine CT.of_T Tryd.func41 (by kernel_rfl) rfl ?_
  refine T_turn [] [0, 1] [] (mk 9 [(0, (ow 3)), (1, (.agg (qVal v_2)))] [(0, gB0), (1, gB1), (2, gB2), (3, (.row 5 1 (b_1.map elB)))]) (by kernel_rfl) ?_
  refine T_reg [] [0, 3] [] (mk 9 [(0, (ow 3)), (3, (rf 7 0))] [(7, (.var (qVal v_2))), (0, gB0), (1, gB1), (2, gB2), (3, (.row 5 1 (b_1.map elB)))]) _ (by kernel_rfl) (z4 zt) ?_
  refine T_seq (T_parts ?_)
  refine TL_part 3 [] (mk 9 [(0, (ow 3)), (3, (rf 7 0)), (5, (ow 3)), (6, (rf 7 2)), (7, (dt (.str v_2.s)))] [(7, (.var (qVal v_2))), (0, gB0), (1, gB1), (2, gB2), (3, (.row 5 1 (b_1.map elB)))]) _ (by kernel_rfl) (z6 zt) rfl ?_
  obtain ⟨y4, e5, hk6, hz7⟩ := bdP_inv h
  refine TL_ct 42 [0, 1, 2, 3] 100004 _ _ [] (g_codec_text_ret e5) rfl rfl (by kernel_rfl) (by kernel_rfl) (by kernel_rfl) (by kernel_rfl) (fun l bx' hR => ?_) (fun d bx' hR => ?_)
  obtain ⟨r_3, rfl, rfl, rfl⟩ := CoR_ret hR
  replace h := hk6 _ rfl
  refine TL_turn [] [8] [7] (mk 9 [(8, (ow 100004))] [(0, gB0), (1, gB1), (2, gB2), (100004, (.row 5 1 (r_3.map elB)))]) (by kernel_rfl) ?_
  refine TL_part 1 [] (mk 9 [(4, (ow 100004)), (8, (ow 100004))] [(0, gB0), (1, gB1), (2, gB2), (100004, (.row 5 1 (r_3.map elB)))]) _ (by kernel_rfl) (z2 zt) rfl ?_
  refine TL_nilQ ?_
  refine T_turn [] [4] [] (mk 9 [(4, (ow 100004))] [(0, gB0), (1, gB1), (2, gB2), (100004, (.row 5 1 (r_3.map elB)))]) (by kernel_rfl) ?_
  refine T_arr [.ren 100004 4] [4] [100004] [0, 1, 2, 4] (mk 9 [(4, (ow 4))] [(0, gB0), (1, gB1), (2, gB2), (4, (.row 5 1 (r_3.map elB)))]) (by kernel_rfl) ?_
  refine T_ret ?_
  obtain rfl := some_inv h
  exact ⟨[(ow 4)], by kernel_rfl, rfl⟩
  obtain ⟨rfl, rfl, hlk⟩ := CoR_pan hR
  replace h := hz7 rfl
  obtain rfl := some_inv h
  exact (show _ ∧ _ from ⟨rfl, ⟨_, rfl, lk3 ((after_lk (by kernel_rfl) rfl).trans (by rw [hlk 0 (by decide)]; kernel_rfl)) ((after_lk (by kernel_rfl) rfl).trans (by rw [hlk 1 (by decide)]; kernel_rfl)) ((after_lk (by kernel_rfl) rfl).trans (by rw [hlk 2 (by decide)]; kernel_rfl))⟩⟩)

theorem g_codec_newWriter_3_s_ret {rc43 rc44 : (List UInt8) → (Val) → Option ((List UInt8) ⊕ Unit)} (hrc43 : ∀ {b_1 : List UInt8} {v_2 : Val} {r : (List UInt8) ⊕ Unit}, rc43 b_1 v_2 = some r → CT Tryd.prog 43 6 [(ow 5), (.agg (qVal v_2)), (rf 3 0)] [(0, gB0), (1, gB1), (2, gB2), (3, (.var [(.ref 4 0)])), (4, (.var [(.dat (.con .nilFunc)), (.fn 39 []), (.fn 41 []), (.fn 43 [.inl 3]), (.fn 44 [.inl 3])])), (5, (.row 5 1 (b_1.map elB)))] (CoR 3 ghosts (fun x => ((ow 6), [(0, gB0), (1, gB1), (2, gB2), (3, (.var [(.ref 4 0)])), (4, (.var [(.dat (.con .nilFunc)), (.fn 39 []), (.fn 41 []), (.fn 43 [.inl 3]), (.fn 44 [.inl 3])])), (6, (.row 5 1 (x.map elB)))])) (.iface 29 (.int .i64 20)) r)) (hrc44 : ∀ {b_1 : List UInt8} {v_2 : Val} {r : (List UInt8) ⊕ Unit}, rc44 b_1 v_2 = some r → CT Tryd.prog 44 6 [(ow 5), (.agg (qVal v_2)), (rf 3 0)] [(0, gB0), (1, gB1), (2, gB2), (3, (.var [(.ref 4 0)])), (4, (.var [(.dat (.con .nilFunc)), (.fn 39 []), (.fn 41 []), (.fn 43 [.inl 3]), (.fn 44 [.inl 3])])), (5, (.row 5 1 (b_1.map elB)))] (CoR 3 ghosts (fun x => ((ow 6), [(0, gB0), (1, gB1), (2, gB2), (3, (.var [(.ref 4 0)])), (4, (.var [(.dat (.con .nilFunc)), (.fn 39 []), (.fn 41 []), (.fn 43 [.inl 3]), (.fn 44 [.inl 3])])), (6, (.row 5 1 (x.map elB)))])) (.iface 29 (.int .i64 20)) r)) {b_1 : List UInt8} {v_2 : Val} {r : (List UInt8) ⊕ Unit} (h : g_codec_newWriter_3_s rc43 rc44 b_1 v_2 = some r) : CT Tryd.prog 43 6 [(ow 5), (.agg (qVal v_2)), (rf 3 0)] [(0, gB0), (1, gB1), (2, gB2), (3, (.var [(.ref 4 0)])), (4, (.var [(.dat (.con .nilFunc)), (.fn 39 []), (.fn 41 []), (.fn 43 [.inl 3]), (.fn 44 [.inl 3])])), (5, (.row 5 1 (b_1.map elB)))] (CoR 3 ghosts (fun x => ((ow 6), [(0, gB0), (1, gB1), (2, gB2), (3, (.var [(.ref 4 0)])), (4, (.var [(.dat (.con .nilFunc)), (.fn 39 []), (.fn 41 []), (.fn 43 [.inl 3]), (.fn 44 [.inl 3])])), (6, (.row 5 1 (x.map elB)))])) (.iface 29 (.int .i64 20)) r) := by
  refine CT.of_T Tryd.func43 (by kernel_rfl) rfl ?_
  refine T_turn [] [0, 1, 2] [] (mk 32 [(0, (ow 5)), (1, (.agg (qVal v_2))), (2, (rf 3 0))] [(0, gB0), (1, gB1), (2, gB2), (3, (.var [(.ref 4 0)])), (4, (.var [(.dat (.con .nilFunc)), (.fn 39 []), (.fn 41 []), (.fn 43 [.inl 3]), (.fn 44 [.inl 3])])), (5, (.row 5 1 (b_1.map elB)))]) (by kernel_rfl) ?_
  refine T_reg [] [0, 2, 4] [] (mk 32 [(0, (ow 5)), (2, (rf 3 0)), (4, (rf 10 0))] [(10, (.var (qVal v_2))), (0, gB0), (1, gB1), (2, gB2), (3, (.var [(.ref 4 0)])), (4, (.var [(.dat (.con .nilFunc)), (.fn 39 []), (.fn 41 []), (.fn 43 [.inl 3]), (.fn 44 [.inl 3])])), (5, (.row 5 1 (b_1.map elB)))]) _ (by kernel_rfl) (z4 zt) ?_
  obtain ⟨c3, h⟩ := ck_inv h
  refine T_reg [zn, zn, (zd (.sl 1 ((b_1 ++ ([108] : List UInt8)).map elB)))] [0, 2, 4] [15] (mk 32 [(0, (ow 16)), (2, (rf 3 0)), (4, (rf 10 0))] [(16, (.row 5 1 ((b_1 ++ ([108] : List UInt8)).map elB))), (10, (.var (qVal v_2))), (0, gB0), (1, gB1), (2, gB2), (3, (.var [(.ref 4 0)])), (4, (.var [(.dat (.con .nilFunc)), (.fn 39 []), (.fn 41 []), (.fn 43 [.inl 3]), (.fn 44 [.inl 3])]))]) _ (by kernel_rfl) (z3 (zc (show dfill (fun i => some (i * 1, 1)) (List.replicate (1 * 1) .junk) [(0, [(.dat (.int .u8 108))])] = some ((flat (([108] : List UInt8).map elB)).map .dat) from rfl) (z1 (zc (app_s elB elB_one b_1 ([108] : List UInt8) c3) (z2 zt))))) ?_
  refine T_seqJ (α := List UInt8) (fun (l_4 : List UInt8) => (mk 32 [(0, (ow 16))] [(0, gB0), (1, gB1), (2, gB2), (3, (.var [(.ref 4 0)])), (4, (.var [(.dat (.con .nilFunc)), (.fn 39 []), (.fn 41 []), (.fn 43 [.inl 3]), (.fn 44 [.inl 3])])), (16, (.row 5 1 (l_4.map elB)))])) (fun (l_4 : List UInt8) => g_codec_newWriter_3_s_j1 l_4 = some r) (fun l_4 h => ?_) ?_
  obtain ⟨c5, h⟩ := ck_inv h
  refine T_reg [zn, zn, (zd (.sl 1 ((l_4 ++ ([101] : List UInt8)).map elB)))] [5] [36] (mk 32 [(5, (ow 37))] [(37, (.row 5 1 ((l_4 ++ ([101] : List UInt8)).map elB))), (0, gB0), (1, gB1), (2, gB2), (3, (.var [(.ref 4 0)])), (4, (.var [(.dat (.con .nilFunc)), (.fn 39 []), (.fn 41 []), (.fn 43 [.inl 3]), (.fn 44 [.inl 3])]))]) _ (by kernel_rfl) (z3 (zc (show dfill (fun i => some (i * 1, 1)) (List.replicate (1 * 1) .junk) [(0, [(.dat (.int .u8 101))])] = some ((flat (([101] : List UInt8).map elB)).map .dat) from rfl) (z1 (zc (app_s elB elB_one l_4 ([101] : List UInt8) c5) (z2 zt))))) ?_
  refine T_arr [.ren 37 6] [5] [37] [0, 1, 2, 3, 4, 6] (mk 32 [(5, (ow 6))] [(0, gB0), (1, gB1), (2, gB2), (3, (.var [(.ref 4 0)])), (4, (.var [(.dat (.con .nilFunc)), (.fn 39 []), (.fn 41 []), (.fn 43 [.inl 3]), (.fn 44 [.inl 3])])), (6, (.row 5 1 ((l_4 ++ ([101] : List UInt8)).map elB)))]) (by kernel_rfl) ?_
  refine T_ret ?_
  obtain rfl := some_inv h
  exact ⟨[(ow 6)], by kernel_rfl, rfl⟩
  refine T_reg [zn, zn, (zd (I ((v_2.l.length : Nat) : Int)))] [0, 2, 12, 13, 14] [10] (mk 32 [(0, (ow 16)), (2, (rf 3 0)), (12, (dt (.sl 5 (v_2.l.map encVal)))), (13, (di ((v_2.l.length : Nat) : Int))), (14, (di 0))] [(16, (.row 5 1 ((b_1 ++ ([108] : List UInt8)).map elB))), (0, gB0), (1, gB1), (2, gB2), (3, (.var [(.ref 4 0)])), (4, (.var [(.dat (.con .nilFunc)), (.fn 39 []), (.fn 41 []), (.fn 43 [.inl 3]), (.fn 44 [.inl 3])]))]) _ (by kernel_rfl) (z5 (zc (len_s encVal v_2.l) (z2 zt))) ?_
  refine T_block ?_
  refine T_arr [] [0, 2, 12, 13, 14] [] [0, 1, 2, 3, 4, 16] _ (by kernel_rfl) (T_loopO (σ := Nat × (List UInt8)) (fun ((v_6, l_7) : Nat × (List UInt8)) => (mk 32 [(0, (ow 16)), (2, (rf 3 0)), (12, (dt (.sl 5 (v_2.l.map encVal)))), (13, (di ((v_2.l.length : Nat) : Int))), (14, (di ((v_6 : Nat) : Int)))] [(0, gB0), (1, gB1), (2, gB2), (3, (.var [(.ref 4 0)])), (4, (.var [(.dat (.con .nilFunc)), (.fn 39 []), (.fn 41 []), (.fn 43 [.inl 3]), (.fn 44 [.inl 3])])), (16, (.row 5 1 (l_7.map elB)))])) (g_codec_newWriter_3_s_l2 v_2 rc43 rc44) (0, (b_1 ++ ([108] : List UInt8))) h (fun v y1 hy1 h => ?_))
  obtain ⟨v_6, l_7⟩ := v
  refine T_reg [] [0, 2, 12, 13, 14, 15] [] (mk 32 [(0, (ow 16)), (2, (rf 3 0)), (12, (dt (.sl 5 (v_2.l.map encVal)))), (13, (di ((v_2.l.length : Nat) : Int))), (14, (di ((v_6 : Nat) : Int))), (15, (db (decide (((v_6 : Nat) : Int) < ((v_2.l.length : Nat) : Int)))))] [(0, gB0), (1, gB1), (2, gB2), (3, (.var [(.ref 4 0)])), (4, (.var [(.dat (.con .nilFunc)), (.fn 39 []), (.fn 41 []), (.fn 43 [.inl 3]), (.fn 44 [.inl 3])])), (16, (.row 5 1 (l_7.map elB)))]) _ (by kernel_rfl) (z2 zt) ?_
  refine T_seq ?_
  refine T_cond (decide (((v_6 : Nat) : Int) < ((v_2.l.length : Nat) : Int))) (by kernel_rfl) (fun b10 => ?_) (fun b10 => ?_)
  replace h := ite_t b10 h
  refine T_skip ?_
  refine T_seqJ (α := List UInt8) (fun (l_11 : List UInt8) => (mk 32 [(0, (ow 100006)), (2, (rf 3 0)), (12, (dt (.sl 5 (v_2.l.map encVal)))), (13, (di ((v_2.l.length : Nat) : Int))), (14, (di ((v_6 : Nat) : Int)))] [(0, gB0), (1, gB1), (2, gB2), (3, (.var [(.ref 4 0)])), (4, (.var [(.dat (.con .nilFunc)), (.fn 39 []), (.fn 41 []), (.fn 43 [.inl 3]), (.fn 44 [.inl 3])])), (100006, (.row 5 1 (l_11.map elB)))])) (fun (l_11 : List UInt8) => g_codec_newWriter_3_s_j3 v_6 v_2 l_11 = some y1) (fun l_11 h => ?_) ?_
  obtain ⟨c12, h⟩ := ckI_inv h
  exact T_regJ [(zd (I ((v_6 + 1 : Nat) : Int)))] [.ren 100006 16] [0, 2, 12, 13, 14] [] [0, 1, 2, 3, 4, 16] _ _ (by kernel_rfl) (z1 (zc c12 (z2 zt))) (fun s hs => Exists.intro (v_6 + 1, l_11) (And.intro h hs))
  refine T_block ?_
  obtain ⟨x_13, e14, e15, e16, h⟩ := gn_invE encVal ndcVal encVal_nd h
  refine T_reg [(zd (ndcVal x_13))] [0, 2, 7, 12, 13, 14] [] (mk 32 [(0, (ow 16)), (2, (rf 3 0)), (7, (rf 13 0)), (12, (dt (.sl 5 (v_2.l.map encVal)))), (13, (di ((v_2.l.length : Nat) : Int))), (14, (di ((v_6 : Nat) : Int)))] [(13, (.var (qVal x_13))), (0, gB0), (1, gB1), (2, gB2), (3, (.var [(.ref 4 0)])), (4, (.var [(.dat (.con .nilFunc)), (.fn 39 []), (.fn 41 []), (.fn 43 [.inl 3]), (.fn 44 [.inl 3])])), (16, (.row 5 1 (l_7.map elB)))]) _ (by kernel_rfl) (z1 (zc e14 (z6 zt))) ?_
  rcases Bool.eq_false_or_eq_true (x_13.k == 0) with b17 | b17
  replace h := ite_t b17 h
  refine T_drawTL 9 (hl 5 [(4, (zd (I 0)))]) (mk 32 [(0, (ow 16)), (2, (rf 3 0)), (7, (rf 13 0)), (12, (dt (.sl 5 (v_2.l.map encVal)))), (13, (di ((v_2.l.length : Nat) : Int))), (14, (di ((v_6 : Nat) : Int))), (18, (rf 4 0)), (19, (rf 13 0)), (20, (di x_13.k)), (21, (rf 4 0)), (22, (rf 4 0)), (23, (rf 4 0)), (24, (dt (.con .nilFunc))), (25, (ow 16)), (26, (.agg (qVal x_13)))] [(13, (.var (qVal x_13))), (0, gB0), (1, gB1), (2, gB2), (3, (.var [(.ref 4 0)])), (4, (.var [(.dat (.con .nilFunc)), (.fn 39 []), (.fn 41 []), (.fn 43 [.inl 3]), (.fn 44 [.inl 3])])), (16, (.row 5 1 (l_7.map elB)))]) _ (by kernel_rfl) (by kernel_rfl) (by kernel_rfl) (z8 (z1 (zc (eq_of_beq b17) (z8 zt)))) ?_
  exact absurd (ck_inv (p := False) h).1 id
  replace h := ite_f b17 h
  rcases Bool.eq_false_or_eq_true (x_13.k == 1) with b18 | b18
  replace h := ite_t b18 h
  refine T_drawTL 9 (hl 5 [(4, (zd (I 1)))]) (mk 32 [(0, (ow 16)), (2, (rf 3 0)), (7, (rf 13 0)), (12, (dt (.sl 5 (v_2.l.map encVal)))), (13, (di ((v_2.l.length : Nat) : Int))), (14, (di ((v_6 : Nat) : Int))), (18, (rf 4 0)), (19, (rf 13 0)), (20, (di x_13.k)), (21, (rf 4 0)), (22, (rf 4 1)), (23, (rf 4 1)), (24, (.one (.fn 39 []))), (25, (ow 16)), (26, (.agg (qVal x_13)))] [(13, (.var (qVal x_13))), (0, gB0), (1, gB1), (2, gB2), (3, (.var [(.ref 4 0)])), (4, (.var [(.dat (.con .nilFunc)), (.fn 39 []), (.fn 41 []), (.fn 43 [.inl 3]), (.fn 44 [.inl 3])])), (16, (.row 5 1 (l_7.map elB)))]) _ (by kernel_rfl) (by kernel_rfl) (by kernel_rfl) (z8 (z1 (zc (eq_of_beq b18) (z8 zt)))) ?_
  obtain ⟨y20, e21, hk22, hz23⟩ := bdP_inv h
  refine TL_ct 39 [0, 1, 2, 16] 100006 _ _ [] (g_codec_newWriter_1_ret e21) rfl rfl (by kernel_rfl) (by kernel_rfl) (by kernel_rfl) (by kernel_rfl) (fun l bx' hR => ?_) (fun d bx' hR => ?_)
  obtain ⟨r_19, rfl, rfl, rfl⟩ := CoR_ret hR
  replace h := hk22 _ rfl
  refine TL_turn [] [2, 12, 13, 14, 27] [13] (mk 32 [(2, (rf 3 0)), (12, (dt (.sl 5 (v_2.l.map encVal)))), (13, (di ((v_2.l.length : Nat) : Int))), (14, (di ((v_6 : Nat) : Int))), (27, (ow 100006))] [(3, (.var [(.ref 4 0)])), (4, (.var [(.dat (.con .nilFunc)), (.fn 39 []), (.fn 41 []), (.fn 43 [.inl 3]), (.fn 44 [.inl 3])])), (0, gB0), (1, gB1), (2, gB2), (100006, (.row 5 1 (r_19.map elB)))]) (by kernel_rfl) ?_
  refine TL_part 1 [] (mk 32 [(0, (ow 100006)), (2, (rf 3 0)), (12, (dt (.sl 5 (v_2.l.map encVal)))), (13, (di ((v_2.l.length : Nat) : Int))), (14, (di ((v_6 : Nat) : Int))), (27, (ow 100006))] [(3, (.var [(.ref 4 0)])), (4, (.var [(.dat (.con .nilFunc)), (.fn 39 []), (.fn 41 []), (.fn 43 [.inl 3]), (.fn 44 [.inl 3])])), (0, gB0), (1, gB1), (2, gB2), (100006, (.row 5 1 (r_19.map elB)))]) _ (by kernel_rfl) (z2 zt) rfl ?_
  refine TL_nilQ ?_
  exact Exists.intro r_19 (And.intro h (arr [] [0, 2, 12, 13, 14] [] [0, 1, 2, 3, 4, 100006] (by kernel_rfl)))
  obtain ⟨rfl, rfl, hlk⟩ := CoR_pan hR
  replace h := hz23 rfl
  replace h := up_inv h hy1
  obtain rfl := some_inv h
  exact (show _ ∧ _ from ⟨rfl, ⟨_, rfl, lk3 ((after_lk (by kernel_rfl) rfl).trans (by rw [hlk 0 (by decide)]; kernel_rfl)) ((after_lk (by kernel_rfl) rfl).trans (by rw [hlk 1 (by decide)]; kernel_rfl)) ((after_lk (by kernel_rfl) rfl).trans (by rw [hlk 2 (by decide)]; kernel_rfl))⟩⟩)
  replace h := ite_f b18 h
  rcases Bool.eq_false_or_eq_true (x_13.k == 2) with b24 | b24
  replace h := ite_t b24 h
  refine T_drawTL 9 (hl 5 [(4, (zd (I 2)))]) (mk 32 [(0, (ow 16)), (2, (rf 3 0)), (7, (rf 13 0)), (12, (dt (.sl 5 (v_2.l.map encVal)))), (13, (di ((v_2.l.length : Nat) : Int))), (14, (di ((v_6 : Nat) : Int))), (18, (rf 4 0)), (19, (rf 13 0)), (20, (di x_13.k)), (21, (rf 4 0)), (22, (rf 4 2)), (23, (rf 4 2)), (24, (.one (.fn 41 []))), (25, (ow 16)), (26, (.agg (qVal x_13)))] [(13, (.var (qVal x_13))), (0, gB0), (1, gB1), (2, gB2), (3, (.var [(.ref 4 0)])), (4, (.var [(.dat (.con .nilFunc)), (.fn 39 []), (.fn 41 []), (.fn 43 [.inl 3]), (.fn 44 [.inl 3])])), (16, (.row 5 1 (l_7.map elB)))]) _ (by kernel_rfl) (by kernel_rfl) (by kernel_rfl) (z8 (z1 (zc (eq_of_beq b24) (z8 zt)))) ?_
  obtain ⟨y26, e27, hk28, hz29⟩ := bdP_inv h
  refine TL_ct 41 [0, 1, 2, 16] 100006 _ _ [] (g_codec_newWriter_2_ret e27) rfl rfl (by kernel_rfl) (by kernel_rfl) (by kernel_rfl) (by kernel_rfl) (fun l bx' hR => ?_) (fun d bx' hR => ?_)
  obtain ⟨r_25, rfl, rfl, rfl⟩ := CoR_ret hR
  replace h := hk28 _ rfl
  refine TL_turn [] [2, 12, 13, 14, 27] [13] (mk 32 [(2, (rf 3 0)), (12, (dt (.sl 5 (v_2.l.map encVal)))), (13, (di ((v_2.l.length : Nat) : Int))), (14, (di ((v_6 : Nat) : Int))), (27, (ow 100006))] [(3, (.var [(.ref 4 0)])), (4, (.var [(.dat (.con .nilFunc)), (.fn 39 []), (.fn 41 []), (.fn 43 [.inl 3]), (.fn 44 [.inl 3])])), (0, gB0), (1, gB1), (2, gB2), (100006, (.row 5 1 (r_25.map elB)))]) (by kernel_rfl) ?_
  refine TL_part 1 [] (mk 32 [(0, (ow 100006)), (2, (rf 3 0)), (12, (dt (.sl 5 (v_2.l.map encVal)))), (13, (di ((v_2.l.length : Nat) : Int))), (14, (di ((v_6 : Nat) : Int))), (27, (ow 100006))] [(3, (.var [(.ref 4 0)])), (4, (.var [(.dat (.con .nilFunc)), (.fn 39 []), (.fn 41 []), (.fn 43 [.inl 3]), (.fn 44 [.inl 3])])), (0, gB0), (1, gB1), (2, gB2), (100006, (.row 5 1 (r_25.map elB)))]) _ (by kernel_rfl) (z2 zt) rfl ?_
  refine TL_nilQ ?_
  exact Exists.intro r_25 (And.intro h (arr [] [0, 2, 12, 13, 14] [] [0, 1, 2, 3, 4, 100006] (by kernel_rfl)))
  obtain ⟨rfl, rfl, hlk⟩ := CoR_pan hR
  replace h := hz29 rfl
  replace h := up_inv h hy1
  obtain rfl := some_inv h
  exact (show _ ∧ _ from ⟨rfl, ⟨_, rfl, lk3 ((after_lk (by kernel_rfl) rfl).trans (by rw [hlk 0 (by decide)]; kernel_rfl)) ((after_lk (by kernel_rfl) rfl).trans (by rw [hlk 1 (by decide)]; kernel_rfl)) ((after_lk (by kernel_rfl) rfl).trans (by rw [hlk 2 (by decide)]; kernel_rfl))⟩⟩)
  replace h := ite_f b24 h
  rcases Bool.eq_false_or_eq_true (x_13.k == 3) with b30 | b30
  replace h := ite_t b30 h
  refine T_drawTL 9 (hl 5 [(4, (zd (I 3)))]) (mk 32 [(0, (ow 16)), (2, (rf 3 0)), (7, (rf 13 0)), (12, (dt (.sl 5 (v_2.l.map encVal)))), (13, (di ((v_2.l.length : Nat) : Int))), (14, (di ((v_6 : Nat) : Int))), (18, (rf 4 0)), (19, (rf 13 0)), (20, (di x_13.k)), (21, (rf 4 0)), (22, (rf 4 3)), (23, (rf 4 3)), (24, (.one (.fn 43 [.inl 3]))), (25, (ow 16)), (26, (.agg (qVal x_13)))] [(13, (.var (qVal x_13))), (0, gB0), (1, gB1), (2, gB2), (3, (.var [(.ref 4 0)])), (4, (.var [(.dat (.con .nilFunc)), (.fn 39 []), (.fn 41 []), (.fn 43 [.inl 3]), (.fn 44 [.inl 3])])), (16, (.row 5 1 (l_7.map elB)))]) _ (by kernel_rfl) (by kernel_rfl) (by kernel_rfl) (z8 (z1 (zc (eq_of_beq b30) (z8 zt)))) ?_
  obtain ⟨y32, e33, hk34, hz35⟩ := bdP_inv h
  refine TL_ct 43 [0, 1, 2, 3, 4, 16] 100006 _ _ [.inl 3] (hrc43 e33) rfl rfl (by kernel_rfl) (by kernel_rfl) (by kernel_rfl) (by kernel_rfl) (fun l bx' hR => ?_) (fun d bx' hR => ?_)
  obtain ⟨r_31, rfl, rfl, rfl⟩ := CoR_ret hR
  replace h := hk34 _ rfl
  refine TL_turn [] [2, 12, 13, 14, 27] [13] (mk 32 [(2, (rf 3 0)), (12, (dt (.sl 5 (v_2.l.map encVal)))), (13, (di ((v_2.l.length : Nat) : Int))), (14, (di ((v_6 : Nat) : Int))), (27, (ow 100006))] [(0, gB0), (1, gB1), (2, gB2), (3, (.var [(.ref 4 0)])), (4, (.var [(.dat (.con .nilFunc)), (.fn 39 []), (.fn 41 []), (.fn 43 [.inl 3]), (.fn 44 [.inl 3])])), (100006, (.row 5 1 (r_31.map elB)))]) (by kernel_rfl) ?_
  refine TL_part 1 [] (mk 32 [(0, (ow 100006)), (2, (rf 3 0)), (12, (dt (.sl 5 (v_2.l.map encVal)))), (13, (di ((v_2.l.length : Nat) : Int))), (14, (di ((v_6 : Nat) : Int))), (27, (ow 100006))] [(0, gB0), (1, gB1), (2, gB2), (3, (.var [(.ref 4 0)])), (4, (.var [(.dat (.con .nilFunc)), (.fn 39 []), (.fn 41 []), (.fn 43 [.inl 3]), (.fn 44 [.inl 3])])), (100006, (.row 5 1 (r_31.map elB)))]) _ (by kernel_rfl) (z2 zt) rfl ?_
  refine TL_nilQ ?_
  exact Exists.intro r_31 (And.intro h (arr [] [0, 2, 12, 13, 14] [] [0, 1, 2, 3, 4, 100006] (by kernel_rfl)))
  obtain ⟨rfl, rfl, hlk⟩ := CoR_pan hR
  replace h := hz35 rfl
  replace h := up_inv h hy1
  obtain rfl := some_inv h
  exact (show _ ∧ _ from ⟨rfl, ⟨_, rfl, lk3 ((after_lk (by kernel_rfl) rfl).trans (by rw [hlk 0 (by decide)]; kernel_rfl)) ((after_lk (by kernel_rfl) rfl).trans (by rw [hlk 1 (by decide)]; kernel_rfl)) ((after_lk (by kernel_rfl) rfl).trans (by rw [hlk 2 (by decide)]; kernel_rfl))⟩⟩)
  replace h := ite_f b30 h
  obtain ⟨c36, h⟩ := ck_inv h
  refine T_drawTL 9 (hl 5 [(4, (zd (I 4)))]) (mk 32 [(0, (ow 16)), (2, (rf 3 0)), (7, (rf 13 0)), (12, (dt (.sl 5 (v_2.l.map encVal)))), (13, (di ((v_2.l.length : Nat) : Int))), (14, (di ((v_6 : Nat) : Int))), (18, (rf 4 0)), (19, (rf 13 0)), (20, (di x_13.k)), (21, (rf 4 0)), (22, (rf 4 4)), (23, (rf 4 4)), (24, (.one (.fn 44 [.inl 3]))), (25, (ow 16)), (26, (.agg (qVal x_13)))] [(13, (.var (qVal x_13))), (0, gB0), (1, gB1), (2, gB2), (3, (.var [(.ref 4 0)])), (4, (.var [(.dat (.con .nilFunc)), (.fn 39 []), (.fn 41 []), (.fn 43 [.inl 3]), (.fn 44 [.inl 3])])), (16, (.row 5 1 (l_7.map elB)))]) _ (by kernel_rfl) (by kernel_rfl) (by kernel_rfl) (z8 (z1 (zc c36 (z8 zt)))) ?_
  obtain ⟨y38, e39, hk40, hz41⟩ := bdP_inv h
  refine TL_ct 44 [0, 1, 2, 3, 4, 16] 100006 _ _ [.inl 3] (hrc44 e39) rfl rfl (by kernel_rfl) (by kernel_rfl) (by kernel_rfl) (by kernel_rfl) (fun l bx' hR => ?_) (fun d bx' hR => ?_)
  obtain ⟨r_37, rfl, rfl, rfl⟩ := CoR_ret hR
  replace h := hk40 _ rfl
  refine TL_turn [] [2, 12, 13, 14, 27] [13] (mk 32 [(2, (rf 3 0)), (12, (dt (.sl 5 (v_2.l.map encVal)))), (13, (di ((v_2.l.length : Nat) : Int))), (14, (di ((v_6 : Nat) : Int))), (27, (ow 100006))] [(0, gB0), (1, gB1), (2, gB2), (3, (.var [(.ref 4 0)])), (4, (.var [(.dat (.con .nilFunc)), (.fn 39 []), (.fn 41 []), (.fn 43 [.inl 3]), (.fn 44 [.inl 3])])), (100006, (.row 5 1 (r_37.map elB)))]) (by kernel_rfl) ?_
  refine TL_part 1 [] (mk 32 [(0, (ow 100006)), (2, (rf 3 0)), (12, (dt (.sl 5 (v_2.l.map encVal)))), (13, (di ((v_2.l.length : Nat) : Int))), (14, (di ((v_6 : Nat) : Int))), (27, (ow 100006))] [(0, gB0), (1, gB1), (2, gB2), (3, (.var [(.ref 4 0)])), (4, (.var [(.dat (.con .nilFunc)), (.fn 39 []), (.fn 41 []), (.fn 43 [.inl 3]), (.fn 44 [.inl 3])])), (100006, (.row 5 1 (r_37.map elB)))]) _ (by kernel_rfl) (z2 zt) rfl ?_
  refine TL_nilQ ?_
  exact Exists.intro r_37 (And.intro h (arr [] [0, 2, 12, 13, 14] [] [0, 1, 2, 3, 4, 100006] (by kernel_rfl)))
  obtain ⟨rfl, rfl, hlk⟩ := CoR_pan hR
  replace h := hz41 rfl
  replace h := up_inv h hy1
  obtain rfl := some_inv h
  exact (show _ ∧ _ from ⟨rfl, ⟨_, rfl, lk3 ((after_lk (by kernel_rfl) rfl).trans (by rw [hlk 0 (by decide)]; kernel_rfl)) ((after_lk (by kernel_rfl) rfl).trans (by rw [hlk 1 (by decide)]; kernel_rfl)) ((after_lk (by kernel_rfl) rfl).trans (by rw [hlk 2 (by decide)]; kernel_rfl))⟩⟩)
  replace h := ite_f b10 h
  refine T_exit ?_
  replace h := up_inv h hy1
  exact Exists.intro l_7 (And.intro h (arr [] [0] [] [0, 1, 2, 3, 4, 16] (by kernel_rfl)))

end Go.Proofs.YtimalbkjflfdoaaDoor

namespace Go.Proofs.YtimalbkjflfdoaaDoor
open Go.DL
set_option maxRecDepth 100000
set_option maxHeartbeats 4000000
theorem g_codec_newWriter_4_s_ret {rc43 rc44 : (List UInt8) → (Val) → Option ((List UInt8) ⊕ Unit)} (hrc43 : ∀ {b_1 : List UInt8} {v_2 : Val} {r : (List UInt8) ⊕ Unit}, rc43 b_1 v_2 = some r → CT Tryd.prog 43 6 [(ow 5), (.agg (qVal v_2)), (rf 3 0)] [(0, gB0), (1, gB1), (2, gB2), (3, (.var [(.ref 4 0)])), (4, (.var [(.dat (.con .nilFunc)), (.fn 39 []), (.fn 41 []), (.fn 43 [.inl 3]), (.fn 44 [.inl 3])])), (5, (.row 5 1 (b_1.map elB)))] (CoR 3 ghosts (fun x => ((ow 6), [(0, gB0), (1, gB1), (2, gB2), (3, (.var [(.ref 4 0)])), (4, (.var [(.dat (.con .nilFunc)), (.fn 39 []), (.fn 41 []), (.fn 43 [.inl 3]), (.fn 44 [.inl 3])])), (6, (.row 5 1 (x.map elB)))])) (.iface 29 (.int .i64 20)) r)) (hrc44 : ∀ {b_1 : List UInt8} {v_2 : Val} {r : (List UInt8) ⊕ Unit}, rc44 b_1 v_2 = some r → CT Tryd.prog 44 6 [(ow 5), (.agg (qVal v_2)), (rf 3 0)] [(0, gB0), (1, gB1), (2, gB2), (3, (.var [(.ref 4 0)])), (4, (.var [(.dat (.con .nilFunc)), (.fn 39 []), (.fn 41 []), (.fn 43 [.inl 3]), (.fn 44 [.inl 3])])), (5, (.row 5 1 (b_1.map elB)))] (CoR 3 ghosts (fun x => ((ow 6), [(0, gB0), (1, gB1), (2, gB2), (3, (.var [(.ref 4 0)])), (4, (.var [(.dat (.con .nilFunc)), (.fn 39 []), (.fn 41 []), (.fn 43 [.inl 3]), (.fn 44 [.inl 3])])), (6, (.row 5 1 (x.map elB)))])) (.iface 29 (.int .i64 20)) r)) {b_1 : List UInt8} {v_2 : Val} {r : (List UInt8) ⊕ Unit} (h : g_codec_newWriter_4_s rc43 rc44 b_1 v_2 = some r) : CT Tryd.prog 44 6 [(ow 5), (.agg (qVal v_2)), (rf 3 0)] [(0, gB0), (1, gB1), (2, gB2), (3, (.var [(.ref 4 0)])), (4, (.var [(.dat (.con .nilFunc)), (.fn 39 []), (.fn 41 []), (.fn 43 [.inl 3]), (.fn 44 [.inl 3])])), (5, (.row 5 1 (b_1.map elB)))] (CoR 3 ghosts (fun x => ((ow 6), [(0, gB0), (1, gB1), (2, gB2), (3, (.var [(.ref 4 0)])), (4, (.var [(.dat (.con .nilFunc)), (.fn 39 []), (.fn 41 []), (.fn 43 [.inl 3]), (.fn 44 [.inl 3])])), (6, (.row 5 1 (x.map elB)))])) (.iface 29 (.int .i64 20)) r) := by
  refine CT.of_T Tryd.func44 (by kernel_rfl) rfl ?_
  refine T_turn [] [0, 1, 2] [] (mk 39 [(0, (ow 5)), (1, (.agg (qVal v_2))), (2, (rf 3 0))] [(0, gB0), (1, gB1), (2, gB2), (3, (.var [(.ref 4 0)])), (4, (.var [(.dat (.con .nilFunc)), (.fn 39 []), (.fn 41 []), (.fn 43 [.inl 3]), (.fn 44 [.inl 3])])), (5, (.row 5 1 (b_1.map elB)))]) (by kernel_rfl) ?_
  refine T_reg [] [0, 2, 4] [] (mk 39 [(0, (ow 5)), (2, (rf 3 0)), (4, (rf 10 0))] [(10, (.var (qVal v_2))), (0, gB0), (1, gB1), (2, gB2), (3, (.var [(.ref 4 0)])), (4, (.var [(.dat (.con .nilFunc)), (.fn 39 []), (.fn 41 []), (.fn 43 [.inl 3]), (.fn 44 [.inl 3])])), (5, (.row 5 1 (b_1.map elB)))]) _ (by kernel_rfl) (z4 zt) ?_
  obtain ⟨c3, h⟩ := ck_inv h
  refine T_reg [zn, zn, (zd (.sl 1 ((b_1 ++ ([100] : List UInt8)).map elB)))] [0, 2, 4] [15] (mk 39 [(0, (ow 16)), (2, (rf 3 0)), (4, (rf 10 0))] [(16, (.row 5 1 ((b_1 ++ ([100] : List UInt8)).map elB))), (10, (.var (qVal v_2))), (0, gB0), (1, gB1), (2, gB2), (3, (.var [(.ref 4 0)])), (4, (.var [(.dat (.con .nilFunc)), (.fn 39 []), (.fn 41 []), (.fn 43 [.inl 3]), (.fn 44 [.inl 3])]))]) _ (by kernel_rfl) (z3 (zc (show dfill (fun i => some (i * 1, 1)) (List.replicate (1 * 1) .junk) [(0, [(.dat (.int .u8 100))])] = some ((flat (([100] : List UInt8).map elB)).map .dat) from rfl) (z1 (zc (app_s elB elB_one b_1 ([100] : List UInt8) c3) (z2 zt))))) ?_
  refine T_seqJ (α := List UInt8) (fun (l_4 : List UInt8) => (mk 39 [(0, (ow 16))] [(0, gB0), (1, gB1), (2, gB2), (3, (.var [(.ref 4 0)])), (4, (.var [(.dat (.con .nilFunc)), (.fn 39 []), (.fn 41 []), (.fn 43 [.inl 3]), (.fn 44 [.inl 3])])), (16, (.row 5 1 (l_4.map elB)))])) (fun (l_4 : List UInt8) => g_codec_newWriter_4_s_j1 l_4 = some r) (fun l_4 h => ?_) ?_
  obtain ⟨c5, h⟩ := ck_inv h
  refine T_reg [zn, zn, (zd (.sl 1 ((l_4 ++ ([101] : List UInt8)).map elB)))] [5] [43] (mk 39 [(5, (ow 44))] [(44, (.row 5 1 ((l_4 ++ ([101] : List UInt8)).map elB))), (0, gB0), (1, gB1), (2, gB2), (3, (.var [(.ref 4 0)])), (4, (.var [(.dat (.con .nilFunc)), (.fn 39 []), (.fn 41 []), (.fn 43 [.inl 3]), (.fn 44 [.inl 3])]))]) _ (by kernel_rfl) (z3 (zc (show dfill (fun i => some (i * 1, 1)) (List.replicate (1 * 1) .junk) [(0, [(.dat (.int .u8 101))])] = some ((flat (([101] : List UInt8).map elB)).map .dat) from rfl) (z1 (zc (app_s elB elB_one l_4 ([101] : List UInt8) c5) (z2 zt))))) ?_
  refine T_arr [.ren 44 6] [5] [44] [0, 1, 2, 3, 4, 6] (mk 39 [(5, (ow 6))] [(0, gB0), (1, gB1), (2, gB2), (3, (.var [(.ref 4 0)])), (4, (.var [(.dat (.con .nilFunc)), (.fn 39 []), (.fn 41 []), (.fn 43 [.inl 3]), (.fn 44 [.inl 3])])), (6, (.row 5 1 ((l_4 ++ ([101] : List UInt8)).map elB)))]) (by kernel_rfl) ?_
  refine T_ret ?_
  obtain rfl := some_inv h
  exact ⟨[(ow 6)], by kernel_rfl, rfl⟩
  refine T_reg [zn, zn, (zd (I ((v_2.l.length : Nat) : Int)))] [0, 2, 4, 12, 13, 14] [] (mk 39 [(0, (ow 16)), (2, (rf 3 0)), (4, (rf 10 0)), (12, (dt (.sl 5 (v_2.l.map encVal)))), (13, (di ((v_2.l.length : Nat) : Int))), (14, (di 0))] [(16, (.row 5 1 ((b_1 ++ ([100] : List UInt8)).map elB))), (10, (.var (qVal v_2))), (0, gB0), (1, gB1), (2, gB2), (3, (.var [(.ref 4 0)])), (4, (.var [(.dat (.con .nilFunc)), (.fn 39 []), (.fn 41 []), (.fn 43 [.inl 3]), (.fn 44 [.inl 3])]))]) _ (by kernel_rfl) (z5 (zc (len_s encVal v_2.l) (z2 zt))) ?_
  refine T_block ?_
  refine T_arr [] [0, 2, 4, 12, 13, 14] [] [0, 1, 2, 3, 4, 10, 16] _ (by kernel_rfl) (T_loopO (σ := Nat × (List UInt8)) (fun ((v_6, l_7) : Nat × (List UInt8)) => (mk 39 [(0, (ow 16)), (2, (rf 3 0)), (4, (rf 10 0)), (12, (dt (.sl 5 (v_2.l.map encVal)))), (13, (di ((v_2.l.length : Nat) : Int))), (14, (di ((v_6 : Nat) : Int)))] [(0, gB0), (1, gB1), (2, gB2), (3, (.var [(.ref 4 0)])), (4, (.var [(.dat (.con .nilFunc)), (.fn 39 []), (.fn 41 []), (.fn 43 [.inl 3]), (.fn 44 [.inl 3])])), (10, (.var (qVal v_2))), (16, (.row 5 1 (l_7.map elB)))])) (g_codec_newWriter_4_s_l2 v_2 rc43 rc44) (0, (b_1 ++ ([100] : List UInt8))) h (fun v y1 hy1 h => ?_))
  obtain ⟨v_6, l_7⟩ := v
  refine T_reg [] [0, 2, 4, 12, 13, 14, 15] [] (mk 39 [(0, (ow 16)), (2, (rf 3 0)), (4, (rf 10 0)), (12, (dt (.sl 5 (v_2.l.map encVal)))), (13, (di ((v_2.l.length : Nat) : Int))), (14, (di ((v_6 : Nat) : Int))), (15, (db (decide (((v_6 : Nat) : Int) < ((v_2.l.length : Nat) : Int)))))] [(0, gB0), (1, gB1), (2, gB2), (3, (.var [(.ref 4 0)])), (4, (.var [(.dat (.con .nilFunc)), (.fn 39 []), (.fn 41 []), (.fn 43 [.inl 3]), (.fn 44 [.inl 3])])), (10, (.var (qVal v_2))), (16, (.row 5 1 (l_7.map elB)))]) _ (by kernel_rfl) (z2 zt) ?_
  refine T_seq ?_
  refine T_cond (decide (((v_6 : Nat) : Int) < ((v_2.l.length : Nat) : Int))) (by kernel_rfl) (fun b10 => ?_) (fun b10 => ?_)
  replace h := ite_t b10 h
  refine T_skip ?_
  refine T_seqJ (α := List UInt8) (fun (l_11 : List UInt8) => (mk 39 [(0, (ow 100007)), (2, (rf 3 0)), (4, (rf 10 0)), (12, (dt (.sl 5 (v_2.l.map encVal)))), (13, (di ((v_2.l.length : Nat) : Int))), (14, (di ((v_6 : Nat) : Int)))] [(0, gB0), (1, gB1), (2, gB2), (3, (.var [(.ref 4 0)])), (4, (.var [(.dat (.con .nilFunc)), (.fn 39 []), (.fn 41 []), (.fn 43 [.inl 3]), (.fn 44 [.inl 3])])), (10, (.var (qVal v_2))), (100007, (.row 5 1 (l_11.map elB)))])) (fun (l_11 : List UInt8) => g_codec_newWriter_4_s_j3 v_6 v_2 l_11 = some y1) (fun l_11 h => ?_) ?_
  obtain ⟨c12, h⟩ := ckI_inv h
  exact T_regJ [(zd (I ((v_6 + 1 : Nat) : Int)))] [.ren 100007 16] [0, 2, 4, 12, 13, 14] [] [0, 1, 2, 3, 4, 10, 16] _ _ (by kernel_rfl) (z1 (zc c12 (z2 zt))) (fun s hs => Exists.intro (v_6 + 1, l_11) (And.intro h hs))
  refine T_block ?_
  obtain ⟨x_13, e14, e15, e16, h⟩ := gn_invE encVal ndcVal encVal_nd h
  refine T_reg [zn, (zd (ndcVal x_13))] [0, 2, 4, 6, 7, 12, 13, 14] [] (mk 39 [(0, (ow 16)), (2, (rf 3 0)), (4, (rf 10 0)), (6, (di ((v_6 : Nat) : Int))), (7, (rf 13 0)), (12, (dt (.sl 5 (v_2.l.map encVal)))), (13, (di ((v_2.l.length : Nat) : Int))), (14, (di ((v_6 : Nat) : Int)))] [(13, (.var (qVal x_13))), (0, gB0), (1, gB1), (2, gB2), (3, (.var [(.ref 4 0)])), (4, (.var [(.dat (.con .nilFunc)), (.fn 39 []), (.fn 41 []), (.fn 43 [.inl 3]), (.fn 44 [.inl 3])])), (10, (.var (qVal v_2))), (16, (.row 5 1 (l_7.map elB)))]) _ (by kernel_rfl) (z3 (zc e14 (z8 zt))) ?_
  refine T_arr [] [0, 2, 4, 6, 7, 12, 13, 14] [] [0, 1, 2, 3, 4, 10, 13, 16] (mk 39 [(0, (ow 16)), (2, (rf 3 0)), (4, (rf 10 0)), (6, (di ((v_6 : Nat) : Int))), (7, (rf 13 0)), (12, (dt (.sl 5 (v_2.l.map encVal)))), (13, (di ((v_2.l.length : Nat) : Int))), (14, (di ((v_6 : Nat) : Int)))] [(0, gB0), (1, gB1), (2, gB2), (3, (.var [(.ref 4 0)])), (4, (.var [(.dat (.con .nilFunc)), (.fn 39 []), (.fn 41 []), (.fn 43 [.inl 3]), (.fn 44 [.inl 3])])), (10, (.var (qVal v_2))), (13, (.var (qVal x_13))), (16, (.row 5 1 (l_7.map elB)))]) (by kernel_rfl) ?_
  rcases Bool.eq_false_or_eq_true (x_13.k == 0) with b17 | b17
  replace h := ite_t b17 h
  obtain ⟨x_18, e19, e20, e21, h⟩ := gn_inv elStr h
  obtain ⟨y23, e24, hk25, hz26⟩ := bdP_inv h
  rcases y23 with r_22 | u
  replace h := hk25 _ rfl
  exact absurd (ck_inv (p := False) h).1 id
  replace h := hz26 rfl
  replace h := up_inv h hy1
  obtain rfl := some_inv h
  refine T_stC [{}, {}, {}, {}, { h := zd (I 0) }, {}, {}, {}, {}, {}, {}, { h := zd (.str x_18) }, {}, {}, {}, {}, {}] _ [(0, 19, (rf 4 0)), (1, 20, (rf 13 0)), (2, 21, (di x_13.k)), (3, 22, (rf 4 0)), (4, 23, (rf 4 0)), (5, 24, (rf 4 0)), (6, 25, (dt (.con .nilFunc))), (7, 26, (ow 16)), (8, 27, (rf 10 4)), (9, 28, (dt (.sl 1 (v_2.ks.map elStr)))), (10, 29, (di ((v_6 : Nat) : Int))), (11, 30, (dt (.ptr [(.str x_18)]))), (12, 31, (dt (.str x_18))), (14, 33, (.agg (qVal x_13)))] [] [0, 1, 2, 3, 4, 10, 13, 16] 17 [0, 0, 2, 1, 15, 31, 63, 0, 0, 256, 0, 1792, 3840, 8064, 0, 32767, 65535] 106496 [0] [13] (some 13) (by kernel_rfl) (by decide) (by kernel_rfl) (by kernel_rfl) (by kernel_rfl) (by kernel_rfl) (by kernel_rfl) (by kernel_rfl) (by kernel_rfl) (zs zt (zs zt (zs zt (zs zt (zs (eq_of_beq b17) (zs zt (zs zt (zs zt (zs zt (zs zt (zs zt (zs e19 (zs zt (zs zt (zs zt (zs zt (zs zt zS))))))))))))))))) ?_ (fun h => absurd h (by decide))
  intro c hc; simp only [List.mem_cons, List.not_mem_nil, or_false] at hc; rcases hc with rfl
  refine ⟨_, rfl, callP (hand := [0, 1, 2, 16]) (nb := 100006) [] (g_codec_text_ret e24) rfl rfl 13 _ _ _ (by kernel_rfl) (by kernel_rfl) (by kernel_rfl) (by kernel_rfl) (fun _ _ hlk => ?_)⟩
  exact (show _ ∧ _ from ⟨rfl, ⟨_, rfl, lk3 ((after_lk (by kernel_rfl) rfl).trans (by rw [hlk 0 (by decide)]; kernel_rfl)) ((after_lk (by kernel_rfl) rfl).trans (by rw [hlk 1 (by decide)]; kernel_rfl)) ((after_lk (by kernel_rfl) rfl).trans (by rw [hlk 2 (by decide)]; kernel_rfl))⟩⟩)
  replace h := ite_f b17 h
  rcases Bool.eq_false_or_eq_true (x_13.k == 1) with b27 | b27
  replace h := ite_t b27 h
  obtain ⟨x_28, e29, e30, e31, h⟩ := gn_inv elStr h
  obtain ⟨y33, e34, hk35, hz36⟩ := bdP_inv h
  rcases y33 with r_32 | u
  replace h := hk35 _ rfl
  obtain ⟨y38, e39, hk40, hz41⟩ := bdP_inv h
  rcases y38 with r_37 | u
  replace h := hk40 _ rfl
  refine T_stC [{}, {}, {}, {}, { h := zd (I 1) }, {}, {}, {}, {}, {}, {}, { h := zd (.str x_28) }, {}, {}, {}, {}, {}] _ [(0, 19, (rf 4 0)), (1, 20, (rf 13 0)), (2, 21, (di x_13.k)), (3, 22, (rf 4 0)), (4, 23, (rf 4 1)), (5, 24, (rf 4 1)), (6, 25, (.one (.fn 39 []))), (7, 26, (ow 16)), (8, 27, (rf 10 4)), (9, 28, (dt (.sl 1 (v_2.ks.map elStr)))), (10, 29, (di ((v_6 : Nat) : Int))), (11, 30, (dt (.ptr [(.str x_28)]))), (12, 31, (dt (.str x_28))), (13, 0, J), (13, 26, J), (13, 32, (ow 100006)), (14, 33, (.agg (qVal x_13))), (15, 32, J), (15, 34, (ow 100007)), (16, 0, (ow 100007))] [(13, 16, none), (13, 100006, some (.row 5 1 (r_32.map elB))), (15, 100006, none), (15, 100007, some (.row 5 1 (r_37.map elB)))] [0, 1, 2, 3, 4, 10, 13, 16, 100006, 100007] 17 [0, 0, 2, 1, 15, 31, 63, 0, 0, 256, 0, 1792, 3840, 8064, 0, 32767, 65535] 106496 [0, 8192, 40960, 106496] [13, 15] none (by kernel_rfl) (by decide) (by kernel_rfl) (by kernel_rfl) (by kernel_rfl) (by kernel_rfl) (by kernel_rfl) (by kernel_rfl) (by kernel_rfl) (zs zt (zs zt (zs zt (zs zt (zs (eq_of_beq b27) (zs zt (zs zt (zs zt (zs zt (zs zt (zs zt (zs e29 (zs zt (zs zt (zs zt (zs zt (zs (zc zt zt) zS))))))))))))))))) ?_ (fun _ => ?_)
  intro c hc; simp only [List.mem_cons, List.not_mem_nil, or_false] at hc; rcases hc with rfl | rfl
  exact ⟨_, rfl, callU (hand := [0, 1, 2, 16]) (nb := 100006) [] (g_codec_text_ret e34) [0, 1, 2, 3, 4, 10, 13, 16, 100006, 100007] (by decide) rfl rfl 13 _ _ _ (by kernel_rfl) (by kernel_rfl) (by kernel_rfl) (by kernel_rfl) (by kernel_rfl) (by kernel_rfl)⟩
  exact ⟨_, rfl, callU (hand := [0, 1, 2, 100006]) (nb := 100007) [] (g_codec_newWriter_1_ret e39) [0, 1, 2, 3, 4, 10, 13, 16, 100006, 100007] (by decide) rfl rfl 15 _ _ _ (by kernel_rfl) (by kernel_rfl) (by kernel_rfl) (by kernel_rfl) (by kernel_rfl) (by kernel_rfl)⟩
  exact Exists.intro r_37 (And.intro h (arr [] [0, 2, 4, 12, 13, 14] [13] [0, 1, 2, 3, 4, 10, 100007] (by kernel_rfl)))
  replace h := hz41 rfl
  replace h := up_inv h hy1
  obtain rfl := some_inv h
  refine T_stC [{}, {}, {}, {}, { h := zd (I 1) }, {}, {}, {}, {}, {}, {}, { h := zd (.str x_28) }, {}, {}, {}, {}, {}] _ [(0, 19, (rf 4 0)), (1, 20, (rf 13 0)), (2, 21, (di x_13.k)), (3, 22, (rf 4 0)), (4, 23, (rf 4 1)), (5, 24, (rf 4 1)), (6, 25, (.one (.fn 39 []))), (7, 26, (ow 16)), (8, 27, (rf 10 4)), (9, 28, (dt (.sl 1 (v_2.ks.map elStr)))), (10, 29, (di ((v_6 : Nat) : Int))), (11, 30, (dt (.ptr [(.str x_28)]))), (12, 31, (dt (.str x_28))), (13, 0, J), (13, 26, J), (13, 32, (ow 100006)), (14, 33, (.agg (qVal x_13)))] [(13, 16, none), (13, 100006, some (.row 5 1 (r_32.map elB)))] [0, 1, 2, 3, 4, 10, 13, 16, 100006] 17 [0, 0, 2, 1, 15, 31, 63, 0, 0, 256, 0, 1792, 3840, 8064, 0, 32767, 65535] 106496 [0, 8192] [13, 15] (some 15) (by kernel_rfl) (by decide) (by kernel_rfl) (by kernel_rfl) (by kernel_rfl) (by kernel_rfl) (by kernel_rfl) (by kernel_rfl) (by kernel_rfl) (zs zt (zs zt (zs zt (zs zt (zs (eq_of_beq b27) (zs zt (zs zt (zs zt (zs zt (zs zt (zs zt (zs e29 (zs zt (zs zt (zs zt (zs zt (zs zt zS))))))))))))))))) ?_ (fun h => absurd h (by decide))
  intro c hc; simp only [List.mem_cons, List.not_mem_nil, or_false] at hc; rcases hc with rfl | rfl
  exact ⟨_, rfl, callU (hand := [0, 1, 2, 16]) (nb := 100006) [] (g_codec_text_ret e34) [0, 1, 2, 3, 4, 10, 13, 16, 100006] (by decide) rfl rfl 13 _ _ _ (by kernel_rfl) (by kernel_rfl) (by kernel_rfl) (by kernel_rfl) (by kernel_rfl) (by kernel_rfl)⟩
  refine ⟨_, rfl, callP (hand := [0, 1, 2, 100006]) (nb := 100007) [] (g_codec_newWriter_1_ret e39) rfl rfl 15 _ _ _ (by kernel_rfl) (by kernel_rfl) (by kernel_rfl) (by kernel_rfl) (fun _ _ hlk => ?_)⟩
  exact (show _ ∧ _ from ⟨rfl, ⟨_, rfl, lk3 ((after_lk (by kernel_rfl) rfl).trans (by rw [hlk 0 (by decide)]; kernel_rfl)) ((after_lk (by kernel_rfl) rfl).trans (by rw [hlk 1 (by decide)]; kernel_rfl)) ((after_lk (by kernel_rfl) rfl).trans (by rw [hlk 2 (by decide)]; kernel_rfl))⟩⟩)
  replace h := hz36 rfl
  replace h := up_inv h hy1
  obtain rfl := some_inv h
  refine T_stC [{}, {}, {}, {}, { h := zd (I 1) }, {}, {}, {}, {}, {}, {}, { h := zd (.str x_28) }, {}, {}, {}, {}, {}] _ [(0, 19, (rf 4 0)), (1, 20, (rf 13 0)), (2, 21, (di x_13.k)), (3, 22, (rf 4 0)), (4, 23, (rf 4 1)), (5, 24, (rf 4 1)), (6, 25, (.one (.fn 39 []))), (7, 26, (ow 16)), (8, 27, (rf 10 4)), (9, 28, (dt (.sl 1 (v_2.ks.map elStr)))), (10, 29, (di ((v_6 : Nat) : Int))), (11, 30, (dt (.ptr [(.str x_28)]))), (12, 31, (dt (.str x_28))), (14, 33, (.agg (qVal x_13)))] [] [0, 1, 2, 3, 4, 10, 13, 16] 17 [0, 0, 2, 1, 15, 31, 63, 0, 0, 256, 0, 1792, 3840, 8064, 0, 32767, 65535] 106496 [0] [13] (some 13) (by kernel_rfl) (by decide) (by kernel_rfl) (by kernel_rfl) (by kernel_rfl) (by kernel_rfl) (by kernel_rfl) (by kernel_rfl) (by kernel_rfl) (zs zt (zs zt (zs zt (zs zt (zs (eq_of_beq b27) (zs zt (zs zt (zs zt (zs zt (zs zt (zs zt (zs e29 (zs zt (zs zt (zs zt (zs zt (zs zt zS))))))))))))))))) ?_ (fun h => absurd h (by decide))
  intro c hc; simp only [List.mem_cons, List.not_mem_nil, or_false] at hc; rcases hc with rfl
  refine ⟨_, rfl, callP (hand := [0, 1, 2, 16]) (nb := 100006) [] (g_codec_text_ret e34) rfl rfl 13 _ _ _ (by kernel_rfl) (by kernel_rfl) (by kernel_rfl) (by kernel_rfl) (fun _ _ hlk => ?_)⟩
  exact (show _ ∧ _ from ⟨rfl, ⟨_, rfl, lk3 ((after_lk (by kernel_rfl) rfl).trans (by rw [hlk 0 (by decide)]; kernel_rfl)) ((after_lk (by kernel_rfl) rfl).trans (by rw [hlk 1 (by decide)]; kernel_rfl)) ((after_lk (by kernel_rfl) rfl).trans (by rw [hlk 2 (by decide)]; kernel_rfl))⟩⟩)
  replace h := ite_f b27 h
  rcases Bool.eq_false_or_eq_true (x_13.k == 2) with b42 | b42
  replace h := ite_t b42 h
  obtain ⟨x_43, e44, e45, e46, h⟩ := gn_inv elStr h
  obtain ⟨y48, e49, hk50, hz51⟩ := bdP_inv h
  rcases y48 with r_47 | u
  replace h := hk50 _ rfl
  obtain ⟨y53, e54, hk55, hz56⟩ := bdP_inv h
  rcases y53 with r_52 | u
  replace h := hk55 _ rfl
  refine T_stC [{}, {}, {}, {}, { h := zd (I 2) }, {}, {}, {}, {}, {}, {}, { h := zd (.str x_43) }, {}, {}, {}, {}, {}] _ [(0, 19, (rf 4 0)), (1, 20, (rf 13 0)), (2, 21, (di x_13.k)), (3, 22, (rf 4 0)), (4, 23, (rf 4 2)), (5, 24, (rf 4 2)), (6, 25, (.one (.fn 41 []))), (7, 26, (ow 16)), (8, 27, (rf 10 4)), (9, 28, (dt (.sl 1 (v_2.ks.map elStr)))), (10, 29, (di ((v_6 : Nat) : Int))), (11, 30, (dt (.ptr [(.str x_43)]))), (12, 31, (dt (.str x_43))), (13, 0, J), (13, 26, J), (13, 32, (ow 100006)), (14, 33, (.agg (qVal x_13))), (15, 32, J), (15, 34, (ow 100007)), (16, 0, (ow 100007))] [(13, 16, none), (13, 100006, some (.row 5 1 (r_47.map elB))), (15, 100006, none), (15, 100007, some (.row 5 1 (r_52.map elB)))] [0, 1, 2, 3, 4, 10, 13, 16, 100006, 100007] 17 [0, 0, 2, 1, 15, 31, 63, 0, 0, 256, 0, 1792, 3840, 8064, 0, 32767, 65535] 106496 [0, 8192, 40960, 106496] [13, 15] none (by kernel_rfl) (by decide) (by kernel_rfl) (by kernel_rfl) (by kernel_rfl) (by kernel_rfl) (by kernel_rfl) (by kernel_rfl) (by kernel_rfl) (zs zt (zs zt (zs zt (zs zt (zs (eq_of_beq b42) (zs zt (zs zt (zs zt (zs zt (zs zt (zs zt (zs e44 (zs zt (zs zt (zs zt (zs zt (zs (zc zt zt) zS))))))))))))))))) ?_ (fun _ => ?_)
  intro c hc; simp only [List.mem_cons, List.not_mem_nil, or_false] at hc; rcases hc with rfl | rfl
  exact ⟨_, rfl, callU (hand := [0, 1, 2, 16]) (nb := 100006) [] (g_codec_text_ret e49) [0, 1, 2, 3, 4, 10, 13, 16, 100006, 100007] (by decide) rfl rfl 13 _ _ _ (by kernel_rfl) (by kernel_rfl) (by kernel_rfl) (by kernel_rfl) (by kernel_rfl) (by kernel_rfl)⟩
  exact ⟨_, rfl, callU (hand := [0, 1, 2, 100006]) (nb := 100007) [] (g_codec_newWriter_2_ret e54) [0, 1, 2, 3, 4, 10, 13, 16, 100006, 100007] (by decide) rfl rfl 15 _ _ _ (by kernel_rfl) (by kernel_rfl) (by kernel_rfl) (by kernel_rfl) (by kernel_rfl) (by kernel_rfl)⟩
  exact Exists.intro r_52 (And.intro h (arr [] [0, 2, 4, 12, 13, 14] [13] [0, 1, 2, 3, 4, 10, 100007] (by kernel_rfl)))
  replace h := hz56 rfl
  replace h := up_inv h hy1
  obtain rfl := some_inv h
  refine T_stC [{}, {}, {}, {}, { h := zd (I 2) }, {}, {}, {}, {}, {}, {}, { h := zd (.str x_43) }, {}, {}, {}, {}, {}] _ [(0, 19, (rf 4 0)), (1, 20, (rf 13 0)), (2, 21, (di x_13.k)), (3, 22, (rf 4 0)), (4, 23, (rf 4 2)), (5, 24, (rf 4 2)), (6, 25, (.one (.fn 41 []))), (7, 26, (ow 16)), (8, 27, (rf 10 4)), (9, 28, (dt (.sl 1 (v_2.ks.map elStr)))), (10, 29, (di ((v_6 : Nat) : Int))), (11, 30, (dt (.ptr [(.str x_43)]))), (12, 31, (dt (.str x_43))), (13, 0, J), (13, 26, J), (13, 32, (ow 100006)), (14, 33, (.agg (qVal x_13)))] [(13, 16, none), (13, 100006, some (.row 5 1 (r_47.map elB)))] [0, 1, 2, 3, 4, 10, 13, 16, 100006] 17 [0, 0, 2, 1, 15, 31, 63, 0, 0, 256, 0, 1792, 3840, 8064, 0, 32767, 65535] 106496 [0, 8192] [13, 15] (some 15) (by kernel_rfl) (by decide) (by kernel_rfl) (by kernel_rfl) (by kernel_rfl) (by kernel_rfl) (by kernel_rfl) (by kernel_rfl) (by kernel_rfl) (zs zt (zs zt (zs zt (zs zt (zs (eq_of_beq b42) (zs zt (zs zt (zs zt (zs zt (zs zt (zs zt (zs e44 (zs zt (zs zt (zs zt (zs zt (zs zt zS))))))))))))))))) ?_ (fun h => absurd h (by decide))
  intro c hc; simp only [List.mem_cons, List.not_mem_nil, or_false] at hc; rcases hc with rfl | rfl
  exact ⟨_, rfl, callU (hand := [0, 1, 2, 16]) (nb := 100006) [] (g_codec_text_ret e49) [0, 1, 2, 3, 4, 10, 13, 16, 100006] (by decide) rfl rfl 13 _ _ _ (by kernel_rfl) (by kernel_rfl) (by kernel_rfl) (by kernel_rfl) (by kernel_rfl) (by kernel_rfl)⟩
  refine ⟨_, rfl, callP (hand := [0, 1, 2, 100006]) (nb := 100007) [] (g_codec_newWriter_2_ret e54) rfl rfl 15 _ _ _ (by kernel_rfl) (by kernel_rfl) (by kernel_rfl) (by kernel_rfl) (fun _ _ hlk => ?_)⟩
  exact (show _ ∧ _ from ⟨rfl, ⟨_, rfl, lk3 ((after_lk (by kernel_rfl) rfl).trans (by rw [hlk 0 (by decide)]; kernel_rfl)) ((after_lk (by kernel_rfl) rfl).trans (by rw [hlk 1 (by decide)]; kernel_rfl)) ((after_lk (by kernel_rfl) rfl).trans (by rw [hlk 2 (by decide)]; kernel_rfl))⟩⟩)
  replace h := hz51 rfl
  replace h := up_inv h hy1
  obtain rfl := some_inv h
  refine T_stC [{}, {}, {}, {}, { h := zd (I 2) }, {}, {}, {}, {}, {}, {}, { h := zd (.str x_43) }, {}, {}, {}, {}, {}] _ [(0, 19, (rf 4 0)), (1, 20, (rf 13 0)), (2, 21, (di x_13.k)), (3, 22, (rf 4 0)), (4, 23, (rf 4 2)), (5, 24, (rf 4 2)), (6, 25, (.one (.fn 41 []))), (7, 26, (ow 16)), (8, 27, (rf 10 4)), (9, 28, (dt (.sl 1 (v_2.ks.map elStr)))), (10, 29, (di ((v_6 : Nat) : Int))), (11, 30, (dt (.ptr [(.str x_43)]))), (12, 31, (dt (.str x_43))), (14, 33, (.agg (qVal x_13)))] [] [0, 1, 2, 3, 4, 10, 13, 16] 17 [0, 0, 2, 1, 15, 31, 63, 0, 0, 256, 0, 1792, 3840, 8064, 0, 32767, 65535] 106496 [0] [13] (some 13) (by kernel_rfl) (by decide) (by kernel_rfl) (by kernel_rfl) (by kernel_rfl) (by kernel_rfl) (by kernel_rfl) (by kernel_rfl) (by kernel_rfl) (zs zt (zs zt (zs zt (zs zt (zs (eq_of_beq b42) (zs zt (zs zt (zs zt (zs zt (zs zt (zs zt (zs e44 (zs zt (zs zt (zs zt (zs zt (zs zt zS))))))))))))))))) ?_ (fun h => absurd h (by decide))
  intro c hc; simp only [List.mem_cons, List.not_mem_nil, or_false] at hc; rcases hc with rfl
  refine ⟨_, rfl, callP (hand := [0, 1, 2, 16]) (nb := 100006) [] (g_codec_text_ret e49) rfl rfl 13 _ _ _ (by kernel_rfl) (by kernel_rfl) (by kernel_rfl) (by kernel_rfl) (fun _ _ hlk => ?_)⟩
  exact (show _ ∧ _ from ⟨rfl, ⟨_, rfl, lk3 ((after_lk (by kernel_rfl) rfl).trans (by rw [hlk 0 (by decide)]; kernel_rfl)) ((after_lk (by kernel_rfl) rfl).trans (by rw [hlk 1 (by decide)]; kernel_rfl)) ((after_lk (by kernel_rfl) rfl).trans (by rw [hlk 2 (by decide)]; kernel_rfl))⟩⟩)
  replace h := ite_f b42 h
  rcases Bool.eq_false_or_eq_true (x_13.k == 3) with b57 | b57
  replace h := ite_t b57 h
  obtain ⟨x_58, e59, e60, e61, h⟩ := gn_inv elStr h
  obtain ⟨y63, e64, hk65, hz66⟩ := bdP_inv h
  rcases y63 with r_62 | u
  replace h := hk65 _ rfl
  obtain ⟨y68, e69, hk70, hz71⟩ := bdP_inv h
  rcases y68 with r_67 | u
  replace h := hk70 _ rfl
  refine T_stC [{}, {}, {}, {}, { h := zd (I 3) }, {}, {}, {}, {}, {}, {}, { h := zd (.str x_58) }, {}, {}, {}, {}, {}] _ [(0, 19, (rf 4 0)), (1, 20, (rf 13 0)), (2, 21, (di x_13.k)), (3, 22, (rf 4 0)), (4, 23, (rf 4 3)), (5, 24, (rf 4 3)), (6, 25, (.one (.fn 43 [.inl 3]))), (7, 26, (ow 16)), (8, 27, (rf 10 4)), (9, 28, (dt (.sl 1 (v_2.ks.map elStr)))), (10, 29, (di ((v_6 : Nat) : Int))), (11, 30, (dt (.ptr [(.str x_58)]))), (12, 31, (dt (.str x_58))), (13, 0, J), (13, 26, J), (13, 32, (ow 100006)), (14, 33, (.agg (qVal x_13))), (15, 32, J), (15, 34, (ow 100007)), (16, 0, (ow 100007))] [(13, 16, none), (13, 100006, some (.row 5 1 (r_62.map elB))), (15, 100006, none), (15, 100007, some (.row 5 1 (r_67.map elB)))] [0, 1, 2, 3, 4, 10, 13, 16, 100006, 100007] 17 [0, 0, 2, 1, 15, 31, 63, 0, 0, 256, 0, 1792, 3840, 8064, 0, 32767, 65535] 106496 [0, 8192, 40960, 106496] [13, 15] none (by kernel_rfl) (by decide) (by kernel_rfl) (by kernel_rfl) (by kernel_rfl) (by kernel_rfl) (by kernel_rfl) (by kernel_rfl) (by kernel_rfl) (zs zt (zs zt (zs zt (zs zt (zs (eq_of_beq b57) (zs zt (zs zt (zs zt (zs zt (zs zt (zs zt (zs e59 (zs zt (zs zt (zs zt (zs zt (zs (zc zt zt) zS))))))))))))))))) ?_ (fun _ => ?_)
  intro c hc; simp only [List.mem_cons, List.not_mem_nil, or_false] at hc; rcases hc with rfl | rfl
  exact ⟨_, rfl, callU (hand := [0, 1, 2, 16]) (nb := 100006) [] (g_codec_text_ret e64) [0, 1, 2, 3, 4, 10, 13, 16, 100006, 100007] (by decide) rfl rfl 13 _ _ _ (by kernel_rfl) (by kernel_rfl) (by kernel_rfl) (by kernel_rfl) (by kernel_rfl) (by kernel_rfl)⟩
  exact ⟨_, rfl, callU (hand := [0, 1, 2, 3, 4, 100006]) (nb := 100007) [.inl 3] (hrc43 e69) [0, 1, 2, 3, 4, 10, 13, 16, 100006, 100007] (by decide) rfl rfl 15 _ _ _ (by kernel_rfl) (by kernel_rfl) (by kernel_rfl) (by kernel_rfl) (by kernel_rfl) (by kernel_rfl)⟩
  exact Exists.intro r_67 (And.intro h (arr [] [0, 2, 4, 12, 13, 14] [13] [0, 1, 2, 3, 4, 10, 100007] (by kernel_rfl)))
  replace h := hz71 rfl
  replace h := up_inv h hy1
  obtain rfl := some_inv h
  refine T_stC [{}, {}, {}, {}, { h := zd (I 3) }, {}, {}, {}, {}, {}, {}, { h := zd (.str x_58) }, {}, {}, {}, {}, {}] _ [(0, 19, (rf 4 0)), (1, 20, (rf 13 0)), (2, 21, (di x_13.k)), (3, 22, (rf 4 0)), (4, 23, (rf 4 3)), (5, 24, (rf 4 3)), (6, 25, (.one (.fn 43 [.inl 3]))), (7, 26, (ow 16)), (8, 27, (rf 10 4)), (9, 28, (dt (.sl 1 (v_2.ks.map elStr)))), (10, 29, (di ((v_6 : Nat) : Int))), (11, 30, (dt (.ptr [(.str x_58)]))), (12, 31, (dt (.str x_58))), (13, 0, J), (13, 26, J), (13, 32, (ow 100006)), (14, 33, (.agg (qVal x_13)))] [(13, 16, none), (13, 100006, some (.row 5 1 (r_62.map elB)))] [0, 1, 2, 3, 4, 10, 13, 16, 100006] 17 [0, 0, 2, 1, 15, 31, 63, 0, 0, 256, 0, 1792, 3840, 8064, 0, 32767, 65535] 106496 [0, 8192] [13, 15] (some 15) (by kernel_rfl) (by decide) (by kernel_rfl) (by kernel_rfl) (by kernel_rfl) (by kernel_rfl) (by kernel_rfl) (by kernel_rfl) (by kernel_rfl) (zs zt (zs zt (zs zt (zs zt (zs (eq_of_beq b57) (zs zt (zs zt (zs zt (zs zt (zs zt (zs zt (zs e59 (zs zt (zs zt (zs zt (zs zt (zs zt zS))))))))))))))))) ?_ (fun h => absurd h (by decide))
  intro c hc; simp only [List.mem_cons, List.not_mem_nil, or_false] at hc; rcases hc with rfl | rfl
  exact ⟨_, rfl, callU (hand := [0, 1, 2, 16]) (nb := 100006) [] (g_codec_text_ret e64) [0, 1, 2, 3, 4, 10, 13, 16, 100006] (by decide) rfl rfl 13 _ _ _ (by kernel_rfl) (by kernel_rfl) (by kernel_rfl) (by kernel_rfl) (by kernel_rfl) (by kernel_rfl)⟩
  refine ⟨_, rfl, callP (hand := [0, 1, 2, 3, 4, 100006]) (nb := 100007) [.inl 3] (hrc43 e69) rfl rfl 15 _ _ _ (by kernel_rfl) (by kernel_rfl) (by kernel_rfl) (by kernel_rfl) (fun _ _ hlk => ?_)⟩
  exact (show _ ∧ _ from ⟨rfl, ⟨_, rfl, lk3 ((after_lk (by kernel_rfl) rfl).trans (by rw [hlk 0 (by decide)]; kernel_rfl)) ((after_lk (by kernel_rfl) rfl).trans (by rw [hlk 1 (by decide)]; kernel_rfl)) ((after_lk (by kernel_rfl) rfl).trans (by rw [hlk 2 (by decide)]; kernel_rfl))⟩⟩)
  replace h := hz66 rfl
  replace h := up_inv h hy1
  obtain rfl := some_inv h
  refine T_stC [{}, {}, {}, {}, { h := zd (I 3) }, {}, {}, {}, {}, {}, {}, { h := zd (.str x_58) }, {}, {}, {}, {}, {}] _ [(0, 19, (rf 4 0)), (1, 20, (rf 13 0)), (2, 21, (di x_13.k)), (3, 22, (rf 4 0)), (4, 23, (rf 4 3)), (5, 24, (rf 4 3)), (6, 25, (.one (.fn 43 [.inl 3]))), (7, 26, (ow 16)), (8, 27, (rf 10 4)), (9, 28, (dt (.sl 1 (v_2.ks.map elStr)))), (10, 29, (di ((v_6 : Nat) : Int))), (11, 30, (dt (.ptr [(.str x_58)]))), (12, 31, (dt (.str x_58))), (14, 33, (.agg (qVal x_13)))] [] [0, 1, 2, 3, 4, 10, 13, 16] 17 [0, 0, 2, 1, 15, 31, 63, 0, 0, 256, 0, 1792, 3840, 8064, 0, 32767, 65535] 106496 [0] [13] (some 13) (by kernel_rfl) (by decide) (by kernel_rfl) (by kernel_rfl) (by kernel_rfl) (by kernel_rfl) (by kernel_rfl) (by kernel_rfl) (by kernel_rfl) (zs zt (zs zt (zs zt (zs zt (zs (eq_of_beq b57) (zs zt (zs zt (zs zt (zs zt (zs zt (zs zt (zs e59 (zs zt (zs zt (zs zt (zs zt (zs zt zS))))))))))))))))) ?_ (fun h => absurd h (by decide))
  intro c hc; simp only [List.mem_cons, List.not_mem_nil, or_false] at hc; rcases hc with rfl
  refine ⟨_, rfl, callP (hand := [0, 1, 2, 16]) (nb := 100006) [] (g_codec_text_ret e64) rfl rfl 13 _ _ _ (by kernel_rfl) (by kernel_rfl) (by kernel_rfl) (by kernel_rfl) (fun _ _ hlk => ?_)⟩
  exact (show _ ∧ _ from ⟨rfl, ⟨_, rfl, lk3 ((after_lk (by kernel_rfl) rfl).trans (by rw [hlk 0 (by decide)]; kernel_rfl)) ((after_lk (by kernel_rfl) rfl).trans (by rw [hlk 1 (by decide)]; kernel_rfl)) ((after_lk (by kernel_rfl) rfl).trans (by rw [hlk 2 (by decide)]; kernel_rfl))⟩⟩)
  replace h := ite_f b57 h
  obtain ⟨c72, h⟩ := ck_inv h
  obtain ⟨x_73, e74, e75, e76, h⟩ := gn_inv elStr h
  obtain ⟨y78, e79, hk80, hz81⟩ := bdP_inv h
  rcases y78 with r_77 | u
  replace h := hk80 _ rfl
  obtain ⟨y83, e84, hk85, hz86⟩ := bdP_inv h
  rcases y83 with r_82 | u
  replace h := hk85 _ rfl
  refine T_stC [{}, {}, {}, {}, { h := zd (I 4) }, {}, {}, {}, {}, {}, {}, { h := zd (.str x_73) }, {}, {}, {}, {}, {}] _ [(0, 19, (rf 4 0)), (1, 20, (rf 13 0)), (2, 21, (di x_13.k)), (3, 22, (rf 4 0)), (4, 23, (rf 4 4)), (5, 24, (rf 4 4)), (6, 25, (.one (.fn 44 [.inl 3]))), (7, 26, (ow 16)), (8, 27, (rf 10 4)), (9, 28, (dt (.sl 1 (v_2.ks.map elStr)))), (10, 29, (di ((v_6 : Nat) : Int))), (11, 30, (dt (.ptr [(.str x_73)]))), (12, 31, (dt (.str x_73))), (13, 0, J), (13, 26, J), (13, 32, (ow 100006)), (14, 33, (.agg (qVal x_13))), (15, 32, J), (15, 34, (ow 100007)), (16, 0, (ow 100007))] [(13, 16, none), (13, 100006, some (.row 5 1 (r_77.map elB))), (15, 100006, none), (15, 100007, some (.row 5 1 (r_82.map elB)))] [0, 1, 2, 3, 4, 10, 13, 16, 100006, 100007] 17 [0, 0, 2, 1, 15, 31, 63, 0, 0, 256, 0, 1792, 3840, 8064, 0, 32767, 65535] 106496 [0, 8192, 40960, 106496] [13, 15] none (by kernel_rfl) (by decide) (by kernel_rfl) (by kernel_rfl) (by kernel_rfl) (by kernel_rfl) (by kernel_rfl) (by kernel_rfl) (by kernel_rfl) (zs zt (zs zt (zs zt (zs zt (zs c72 (zs zt (zs zt (zs zt (zs zt (zs zt (zs zt (zs e74 (zs zt (zs zt (zs zt (zs zt (zs (zc zt zt) zS))))))))))))))))) ?_ (fun _ => ?_)
  intro c hc; simp only [List.mem_cons, List.not_mem_nil, or_false] at hc; rcases hc with rfl | rfl
  exact ⟨_, rfl, callU (hand := [0, 1, 2, 16]) (nb := 100006) [] (g_codec_text_ret e79) [0, 1, 2, 3, 4, 10, 13, 16, 100006, 100007] (by decide) rfl rfl 13 _ _ _ (by kernel_rfl) (by kernel_rfl) (by kernel_rfl) (by kernel_rfl) (by kernel_rfl) (by kernel_rfl)⟩
  exact ⟨_, rfl, callU (hand := [0, 1, 2, 3, 4, 100006]) (nb := 100007) [.inl 3] (hrc44 e84) [0, 1, 2, 3, 4, 10, 13, 16, 100006, 100007] (by decide) rfl rfl 15 _ _ _ (by kernel_rfl) (by kernel_rfl) (by kernel_rfl) (by kernel_rfl) (by kernel_rfl) (by kernel_rfl)⟩
  exact Exists.intro r_82 (And.intro h (arr [] [0, 2, 4, 12, 13, 14] [13] [0, 1, 2, 3, 4, 10, 100007] (by kernel_rfl)))
  replace h := hz86 rfl
  replace h := up_inv h hy1
  obtain rfl := some_inv h
  refine T_stC [{}, {}, {}, {}, { h := zd (I 4) }, {}, {}, {}, {}, {}, {}, { h := zd (.str x_73) }, {}, {}, {}, {}, {}] _ [(0, 19, (rf 4 0)), (1, 20, (rf 13 0)), (2, 21, (di x_13.k)), (3, 22, (rf 4 0)), (4, 23, (rf 4 4)), (5, 24, (rf 4 4)), (6, 25, (.one (.fn 44 [.inl 3]))), (7, 26, (ow 16)), (8, 27, (rf 10 4)), (9, 28, (dt (.sl 1 (v_2.ks.map elStr)))), (10, 29, (di ((v_6 : Nat) : Int))), (11, 30, (dt (.ptr [(.str x_73)]))), (12, 31, (dt (.str x_73))), (13, 0, J), (13, 26, J), (13, 32, (ow 100006)), (14, 33, (.agg (qVal x_13)))] [(13, 16, none), (13, 100006, some (.row 5 1 (r_77.map elB)))] [0, 1, 2, 3, 4, 10, 13, 16, 100006] 17 [0, 0, 2, 1, 15, 31, 63, 0, 0, 256, 0, 1792, 3840, 8064, 0, 32767, 65535] 106496 [0, 8192] [13, 15] (some 15) (by kernel_rfl) (by decide) (by kernel_rfl) (by kernel_rfl) (by kernel_rfl) (by kernel_rfl) (by kernel_rfl) (by kernel_rfl) (by kernel_rfl) (zs zt (zs zt (zs zt (zs zt (zs c72 (zs zt (zs zt (zs zt (zs zt (zs zt (zs zt (zs e74 (zs zt (zs zt (zs zt (zs zt (zs zt zS))))))))))))))))) ?_ (fun h => absurd h (by decide))
  intro c hc; simp only [List.mem_cons, List.not_mem_nil, or_false] at hc; rcases hc with rfl | rfl
  exact ⟨_, rfl, callU (hand := [0, 1, 2, 16]) (nb := 100006) [] (g_codec_text_ret e79) [0, 1, 2, 3, 4, 10, 13, 16, 100006] (by decide) rfl rfl 13 _ _ _ (by kernel_rfl) (by kernel_rfl) (by kernel_rfl) (by kernel_rfl) (by kernel_rfl) (by kernel_rfl)⟩
  refine ⟨_, rfl, callP (hand := [0, 1, 2, 3, 4, 100006]) (nb := 100007) [.inl 3] (hrc44 e84) rfl rfl 15 _ _ _ (by kernel_rfl) (by kernel_rfl) (by kernel_rfl) (by kernel_rfl) (fun _ _ hlk => ?_)⟩
  exact (show _ ∧ _ from ⟨rfl, ⟨_, rfl, lk3 ((after_lk (by kernel_rfl) rfl).trans (by rw [hlk 0 (by decide)]; kernel_rfl)) ((after_lk (by kernel_rfl) rfl).trans (by rw [hlk 1 (by decide)]; kernel_rfl)) ((after_lk (by kernel_rfl) rfl).trans (by rw [hlk 2 (by decide)]; kernel_rfl))⟩⟩)
  replace h := hz81 rfl
  replace h := up_inv h hy1
  obtain rfl := some_inv h
  refine T_stC [{}, {}, {}, {}, { h := zd (I 4) }, {}, {}, {}, {}, {}, {}, { h := zd (.str x_73) }, {}, {}, {}, {}, {}] _ [(0, 19, (rf 4 0)), (1, 20, (rf 13 0)), (2, 21, (di x_13.k)), (3, 22, (rf 4 0)), (4, 23, (rf 4 4)), (5, 24, (rf 4 4)), (6, 25, (.one (.fn 44 [.inl 3]))), (7, 26, (ow 16)), (8, 27, (rf 10 4)), (9, 28, (dt (.sl 1 (v_2.ks.map elStr)))), (10, 29, (di ((v_6 : Nat) : Int))), (11, 30, (dt (.ptr [(.str x_73)]))), (12, 31, (dt (.str x_73))), (14, 33, (.agg (qVal x_13)))] [] [0, 1, 2, 3, 4, 10, 13, 16] 17 [0, 0, 2, 1, 15, 31, 63, 0, 0, 256, 0, 1792, 3840, 8064, 0, 32767, 65535] 106496 [0] [13] (some 13) (by kernel_rfl) (by decide) (by kernel_rfl) (by kernel_rfl) (by kernel_rfl) (by kernel_rfl) (by kernel_rfl) (by kernel_rfl) (by kernel_rfl) (zs zt (zs zt (zs zt (zs zt (zs c72 (zs zt (zs zt (zs zt (zs zt (zs zt (zs zt (zs e74 (zs zt (zs zt (zs zt (zs zt (zs zt zS))))))))))))))))) ?_ (fun h => absurd h (by decide))
  intro c hc; simp only [List.mem_cons, List.not_mem_nil, or_false] at hc; rcases hc with rfl
  refine ⟨_, rfl, callP (hand := [0, 1, 2, 16]) (nb := 100006) [] (g_codec_text_ret e79) rfl rfl 13 _ _ _ (by kernel_rfl) (by kernel_rfl) (by kernel_rfl) (by kernel_rfl) (fun _ _ hlk => ?_)⟩
  exact (show _ ∧ _ from ⟨rfl, ⟨_, rfl, lk3 ((after_lk (by kernel_rfl) rfl).trans (by rw [hlk 0 (by decide)]; kernel_rfl)) ((after_lk (by kernel_rfl) rfl).trans (by rw [hlk 1 (by decide)]; kernel_rfl)) ((after_lk (by kernel_rfl) rfl).trans (by rw [hlk 2 (by decide)]; kernel_rfl))⟩⟩)
  replace h := ite_f b10 h
  refine T_exit ?_
  replace h := up_inv h hy1
  exact Exists.intro l_7 (And.intro h (arr [] [0] [10] [0, 1, 2, 3, 4, 16] (by kernel_rfl)))

end Go.Proofs.YtimalbkjflfdoaaDoor

namespace Go.Proofs.YtimalbkjflfdoaaDoor
open Go.DL
set_option maxRecDepth 100000
set_option maxHeartbeats 4000000
noncomputable def g_writer : Nat → ((List UInt8) → (Val) → Option ((List UInt8) ⊕ Unit)) × ((List UInt8) → (Val) → Option ((List UInt8) ⊕ Unit))
  | 0 => (fun _ _ => none, fun _ _ => none)
  | fu + 1 => (g_codec_newWriter_3_s (g_writer fu).1 (g_writer fu).2, g_codec_newWriter_4_s (g_writer fu).1 (g_writer fu).2)
theorem g_writer_ret : ∀ (fu : Nat), (∀ {b_1 : List UInt8} {v_2 : Val} {r : (List UInt8) ⊕ Unit}, (g_writer fu).1 b_1 v_2 = some r → CT Tryd.prog 43 6 [(ow 5), (.agg (qVal v_2)), (rf 3 0)] [(0, gB0), (1, gB1), (2, gB2), (3, (.var [(.ref 4 0)])), (4, (.var [(.dat (.con .nilFunc)), (.fn 39 []), (.fn 41 []), (.fn 43 [.inl 3]), (.fn 44 [.inl 3])])), (5, (.row 5 1 (b_1.map elB)))] (CoR 3 ghosts (fun x => ((ow 6), [(0, gB0), (1, gB1), (2, gB2), (3, (.var [(.ref 4 0)])), (4, (.var [(.dat (.con .nilFunc)), (.fn 39 []), (.fn 41 []), (.fn 43 [.inl 3]), (.fn 44 [.inl 3])])), (6, (.row 5 1 (x.map elB)))])) (.iface 29 (.int .i64 20)) r)) ∧ (∀ {b_1 : List UInt8} {v_2 : Val} {r : (List UInt8) ⊕ Unit}, (g_writer fu).2 b_1 v_2 = some r → CT Tryd.prog 44 6 [(ow 5), (.agg (qVal v_2)), (rf 3 0)] [(0, gB0), (1, gB1), (2, gB2), (3, (.var [(.ref 4 0)])), (4, (.var [(.dat (.con .nilFunc)), (.fn 39 []), (.fn 41 []), (.fn 43 [.inl 3]), (.fn 44 [.inl 3])])), (5, (.row 5 1 (b_1.map elB)))] (CoR 3 ghosts (fun x => ((ow 6), [(0, gB0), (1, gB1), (2, gB2), (3, (.var [(.ref 4 0)])), (4, (.var [(.dat (.con .nilFunc)), (.fn 39 []), (.fn 41 []), (.fn 43 [.inl 3]), (.fn 44 [.inl 3])])), (6, (.row 5 1 (x.map elB)))])) (.iface 29 (.int .i64 20)) r))
  | 0 => ⟨fun h => (by cases h), fun h => (by cases h)⟩
  | fu + 1 => ⟨fun h => g_codec_newWriter_3_s_ret (g_writer_ret fu).1 (g_writer_ret fu).2 h, fun h => g_codec_newWriter_4_s_ret (g_writer_ret fu).1 (g_writer_ret fu).2 h⟩
theorem newWriter_ret : CT Tryd.prog 26 3 [] ghosts (CoR 3 ghosts (fun (_ : Unit) => ((rf 6 0), [(0, gB0), (1, gB1), (2, gB2), (4, (.var [(.ref 6 0)])), (6, (.var [(.dat (.con .nilFunc)), (.fn 39 []), (.fn 41 []), (.fn 43 [.inl 4]), (.fn 44 [.inl 4])]))])) (.iface 29 (.int .i64 20)) (.inl ())) := by
  refine CT.of_T Tryd.func26 (by kernel_rfl) rfl ?_
  refine T_turn [] [] [] (mk 23 [] ghosts) (by kernel_rfl) ?_
  refine T_reg [] [] [] (mk 23 [] ghosts) _ (by kernel_rfl) (z2 zt) ?_
  refine T_reg [] [1] [] (mk 23 [(1, (rf 4 0))] [(4, (.var [(.ref 6 0)])), (6, (.var [(.dat (.con .nilFunc)), (.dat (.con .nilFunc)), (.dat (.con .nilFunc)), (.dat (.con .nilFunc)), (.dat (.con .nilFunc))])), (0, gB0), (1, gB1), (2, gB2)]) _ (by kernel_rfl) (z8 zt) ?_
  refine T_reg [zn, zn, (zd (I 1))] [1] [] (mk 23 [(1, (rf 4 0))] [(4, (.var [(.ref 6 0)])), (6, (.var [(.dat (.con .nilFunc)), (.fn 39 []), (.dat (.con .nilFunc)), (.dat (.con .nilFunc)), (.dat (.con .nilFunc))])), (0, gB0), (1, gB1), (2, gB2)]) _ (by kernel_rfl) (z5 (zc (rfl : (1 : Int) = 1) (z4 zt))) ?_
  refine T_reg [zn, zn, (zd (I 2))] [1] [] (mk 23 [(1, (rf 4 0))] [(4, (.var [(.ref 6 0)])), (6, (.var [(.dat (.con .nilFunc)), (.fn 39 []), (.fn 41 []), (.dat (.con .nilFunc)), (.dat (.con .nilFunc))])), (0, gB0), (1, gB1), (2, gB2)]) _ (by kernel_rfl) (z5 (zc (rfl : (2 : Int) = 2) (z4 zt))) ?_
  refine T_reg [zn, zn, zn, (zd (I 3))] [1] [] (mk 23 [(1, (rf 4 0))] [(4, (.var [(.ref 6 0)])), (6, (.var [(.dat (.con .nilFunc)), (.fn 39 []), (.fn 41 []), (.fn 43 [.inl 4]), (.dat (.con .nilFunc))])), (0, gB0), (1, gB1), (2, gB2)]) _ (by kernel_rfl) (z7 (zc (rfl : (3 : Int) = 3) (z4 zt))) ?_
  refine T_reg [zn, zn, zn, (zd (I 4))] [1] [] (mk 23 [(1, (rf 4 0))] [(4, (.var [(.ref 6 0)])), (6, (.var [(.dat (.con .nilFunc)), (.fn 39 []), (.fn 41 []), (.fn 43 [.inl 4]), (.fn 44 [.inl 4])])), (0, gB0), (1, gB1), (2, gB2)]) _ (by kernel_rfl) (z7 (zc (rfl : (4 : Int) = 4) (z4 zt))) ?_
  refine T_reg [] [0] [] (mk 23 [(0, (rf 6 0))] [(4, (.var [(.ref 6 0)])), (6, (.var [(.dat (.con .nilFunc)), (.fn 39 []), (.fn 41 []), (.fn 43 [.inl 4]), (.fn 44 [.inl 4])])), (0, gB0), (1, gB1), (2, gB2)]) _ (by kernel_rfl) (z4 zt) ?_
  refine T_arr [] [0] [] [0, 1, 2, 4, 6] (mk 23 [(0, (rf 6 0))] [(0, gB0), (1, gB1), (2, gB2), (4, (.var [(.ref 6 0)])), (6, (.var [(.dat (.con .nilFunc)), (.fn 39 []), (.fn 41 []), (.fn 43 [.inl 4]), (.fn 44 [.inl 4])]))]) (by kernel_rfl) ?_
  refine T_ret ?_
  exact ⟨[(rf 6 0)], by kernel_rfl, rfl⟩
end Go.Proofs.YtimalbkjflfdoaaDoor

namespace Go.Proofs.YtimalbkjflfdoaaDoor
open Go.DL
set_option maxRecDepth 100000
set_option maxHeartbeats 4000000
noncomputable def g_codec_Encode (v_1 : Val) : Option (((List UInt8) × Int) ⊕ Unit) :=
  bd (g_codec_Check v_1) fun r_2 => if (r_2 != 0) = true then (some (.inl (([] : List UInt8), r_2))) else if (v_1.k == 0) = true then (ck False none) else if (v_1.k == 1) = true then (bdP (g_codec_newWriter_1 ([] : List UInt8) v_1) (fun r_7 => some (.inl (r_7, 0))) (some (.inr ()))) else if (v_1.k == 2) = true then (bdP (g_codec_newWriter_2 ([] : List UInt8) v_1) (fun r_13 => some (.inl (r_13, 0))) (some (.inr ()))) else if (v_1.k == 3) = true then (bdP ((g_writer 60).1 ([] : List UInt8) v_1) (fun r_19 => some (.inl (r_19, 0))) (some (.inr ()))) else ck ((v_1.k : Int) = 4) <| bdP ((g_writer 60).2 ([] : List UInt8) v_1) (fun r_25 => some (.inl (r_25, 0))) (some (.inr ()))
end Go.Proofs.YtimalbkjflfdoaaDoor

namespace Go.Proofs.YtimalbkjflfdoaaDoor
open Go.DL
set_option maxRecDepth 100000
set_option maxHeartbeats 4000000
theorem g_codec_Encode_ret {v_1 : Val} {r : ((List UInt8) × Int) ⊕ Unit} (h : g_codec_Encode v_1 = some r) : CT Tryd.prog 12 3 [(.agg (qVal v_1))] ghosts (CoR 3 ghosts (fun x => ((.tup [(false, [(.dat (.sl 1 (x.1.map elB)))]), (false, [(.dat (I x.2))])]), ghosts)) (.iface 29 (.int .i64 20)) r) := by
  refine CT.of_T Tryd.func12 (by kernel_rfl) rfl ?_
  refine T_turn [] [0] [] (mk 19 [(0, (.agg (qVal v_1)))] ghosts) (by kernel_rfl) ?_
  refine T_reg [] [1] [] (mk 19 [(1, (rf 4 0))] [(4, (.var (qVal v_1))), (0, gB0), (1, gB1), (2, gB2)]) _ (by kernel_rfl) (z6 zt) ?_
  refine T_seq ?_
  obtain ⟨r_2, e3, h⟩ := bd_inv h
  refine T_reg [zn, (zd (I r_2))] [1, 4] [] (mk 19 [(1, (rf 4 0)), (4, (di r_2))] [(4, (.var (qVal v_1))), (0, gB0), (1, gB1), (2, gB2)]) _ (by kernel_rfl) (z3 (zc (g_codec_Check_ret e3) (z2 zt))) ?_
  refine T_reg [] [1, 4, 8] [] (mk 19 [(1, (rf 4 0)), (4, (di r_2)), (8, (db (r_2 != 0)))] [(4, (.var (qVal v_1))), (0, gB0), (1, gB1), (2, gB2)]) _ (by kernel_rfl) (z4 zt) ?_
  refine T_cond (r_2 != 0) (by kernel_rfl) (fun b4 => ?_) (fun b4 => ?_)
  replace h := ite_t b4 h
  refine T_reg [] [2, 3] [4] (mk 19 [(2, (dt nilS)), (3, (di r_2))] ghosts) _ (by kernel_rfl) (z6 zt) ?_
  refine T_arr [.nilS 2 0 1] [2, 3] [] [0, 1, 2] (mk 19 [(2, (dt (.sl 1 (([] : List UInt8).map elB)))), (3, (di r_2))] ghosts) (by kernel_rfl) ?_
  refine T_ret ?_
  obtain rfl := some_inv h
  exact ⟨[(dt (.sl 1 (([] : List UInt8).map elB))), (di r_2)], by kernel_rfl, rfl⟩
  replace h := ite_f b4 h
  refine T_skip ?_
  refine T_arr [] [1, 4, 8] [] [0, 1, 2, 4] (mk 19 [(1, (rf 4 0)), (4, (di r_2)), (8, (db (r_2 != 0)))] [(0, gB0), (1, gB1), (2, gB2), (4, (.var (qVal v_1)))]) (by kernel_rfl) ?_
  rcases Bool.eq_false_or_eq_true (v_1.k == 0) with b5 | b5
  replace h := ite_t b5 h
  exact absurd (ck_inv (p := False) h).1 id
  replace h := ite_f b5 h
  rcases Bool.eq_false_or_eq_true (v_1.k == 1) with b6 | b6
  replace h := ite_t b6 h
  obtain ⟨y8, e9, hk10, hz11⟩ := bdP_inv h
  rcases y8 with r_7 | u
  replace h := hk10 _ rfl
  refine T_seq (T_stC [{}, {}, {}, {}, { h := zd (I 1) }, {}, {}, {}, {}, {}, {}] _ [(0, 10, (rf 100006 0)), (1, 11, (rf 4 0)), (2, 12, (di v_1.k)), (3, 13, (rf 100006 0)), (4, 14, (rf 100006 1)), (5, 15, (rf 100006 1)), (6, 16, (.one (.fn 39 []))), (7, 17, (.agg (qVal v_1))), (8, 18, (ow 100008)), (9, 2, (ow 100008)), (10, 3, (di 0))] [(0, 100004, some (.var [(.ref 100006 0)])), (0, 100006, some (.var [(.dat (.con .nilFunc)), (.fn 39 []), (.fn 41 []), (.fn 43 [.inl 100004]), (.fn 44 [.inl 100004])])), (8, 100008, some (.row 5 1 (r_7.map elB)))] [0, 1, 2, 4, 100004, 100006, 100008] 11 [0, 0, 2, 1, 15, 31, 63, 0, 255, 511, 1023] 257 [0, 1, 257] [0, 8] none (by kernel_rfl) (by decide) (by kernel_rfl) (by kernel_rfl) (by kernel_rfl) (by kernel_rfl) (by kernel_rfl) (by kernel_rfl) (by kernel_rfl) (zs zt (zs zt (zs zt (zs zt (zs (eq_of_beq b6) (zs zt (zs zt (zs zt (zs zt (zs zt (zs zt zS))))))))))) ?_ (fun _ => ?_))
  intro c hc; simp only [List.mem_cons, List.not_mem_nil, or_false] at hc; rcases hc with rfl | rfl
  exact ⟨_, rfl, callU (hand := [0, 1, 2]) (nb := 100003) [] (newWriter_ret) [0, 1, 2, 4, 100004, 100006, 100008] (by decide) rfl rfl 0 _ _ _ (by kernel_rfl) (by kernel_rfl) (by kernel_rfl) (by kernel_rfl) (by kernel_rfl) (by kernel_rfl)⟩
  exact ⟨_, rfl, callU (hand := [0, 1, 2]) (nb := 100007) [] (CT.nil (n := 3) (ls := [(.agg (qVal v_1))]) (bx := ghosts) 5 1 (g_codec_newWriter_1_ret e9) (by kernel_rfl) (by kernel_rfl) (by kernel_rfl)) [0, 1, 2, 4, 100004, 100006, 100008] (by decide) rfl rfl 8 _ _ _ (by kernel_rfl) (by kernel_rfl) (by kernel_rfl) (by kernel_rfl) (by kernel_rfl) (by kernel_rfl)⟩
  refine T_turn [] [2, 3] [4, 100004, 100006] (mk 19 [(2, (ow 100008)), (3, (di 0))] [(0, gB0), (1, gB1), (2, gB2), (100008, (.row 5 1 (r_7.map elB)))]) (by kernel_rfl) ?_
  refine T_arr [.ice 100008] [2, 3] [100008] [0, 1, 2] (mk 19 [(2, (dt (.sl 1 (r_7.map elB)))), (3, (di 0))] ghosts) (by kernel_rfl) ?_
  refine T_ret ?_
  obtain rfl := some_inv h
  exact ⟨[(dt (.sl 1 (r_7.map elB))), (di 0)], by kernel_rfl, rfl⟩
  replace h := hz11 rfl
  obtain rfl := some_inv h
  refine T_seq (T_stC [{}, {}, {}, {}, { h := zd (I 1) }, {}, {}, {}, {}, {}, {}] _ [(0, 10, (rf 100006 0)), (1, 11, (rf 4 0)), (2, 12, (di v_1.k)), (3, 13, (rf 100006 0)), (4, 14, (rf 100006 1)), (5, 15, (rf 100006 1)), (6, 16, (.one (.fn 39 []))), (7, 17, (.agg (qVal v_1)))] [(0, 100004, some (.var [(.ref 100006 0)])), (0, 100006, some (.var [(.dat (.con .nilFunc)), (.fn 39 []), (.fn 41 []), (.fn 43 [.inl 100004]), (.fn 44 [.inl 100004])]))] [0, 1, 2, 4, 100004, 100006] 11 [0, 0, 2, 1, 15, 31, 63, 0, 255, 511, 1023] 1793 [0, 1] [0, 8] (some 8) (by kernel_rfl) (by decide) (by kernel_rfl) (by kernel_rfl) (by kernel_rfl) (by kernel_rfl) (by kernel_rfl) (by kernel_rfl) (by kernel_rfl) (zs zt (zs zt (zs zt (zs zt (zs (eq_of_beq b6) (zs zt (zs zt (zs zt (zs zt (zs zt (zs zt zS))))))))))) ?_ (fun h => absurd h (by decide)))
  intro c hc; simp only [List.mem_cons, List.not_mem_nil, or_false] at hc; rcases hc with rfl | rfl
  exact ⟨_, rfl, callU (hand := [0, 1, 2]) (nb := 100003) [] (newWriter_ret) [0, 1, 2, 4, 100004, 100006] (by decide) rfl rfl 0 _ _ _ (by kernel_rfl) (by kernel_rfl) (by kernel_rfl) (by kernel_rfl) (by kernel_rfl) (by kernel_rfl)⟩
  refine ⟨_, rfl, callP (hand := [0, 1, 2]) (nb := 100007) [] (CT.nil (n := 3) (ls := [(.agg (qVal v_1))]) (bx := ghosts) 5 1 (g_codec_newWriter_1_ret e9) (by kernel_rfl) (by kernel_rfl) (by kernel_rfl)) rfl rfl 8 _ _ _ (by kernel_rfl) (by kernel_rfl) (by kernel_rfl) (by kernel_rfl) (fun _ _ hlk => ?_)⟩
  exact (show _ ∧ _ from ⟨rfl, ⟨_, rfl, lk3 ((after_lk (by kernel_rfl) rfl).trans (by rw [hlk 0 (by decide)]; kernel_rfl)) ((after_lk (by kernel_rfl) rfl).trans (by rw [hlk 1 (by decide)]; kernel_rfl)) ((after_lk (by kernel_rfl) rfl).trans (by rw [hlk 2 (by decide)]; kernel_rfl))⟩⟩)
  replace h := ite_f b6 h
  rcases Bool.eq_false_or_eq_true (v_1.k == 2) with b12 | b12
  replace h := ite_t b12 h
  obtain ⟨y14, e15, hk16, hz17⟩ := bdP_inv h
  rcases y14 with r_13 | u
  replace h := hk16 _ rfl
  refine T_seq (T_stC [{}, {}, {}, {}, { h := zd (I 2) }, {}, {}, {}, {}, {}, {}] _ [(0, 10, (rf 100006 0)), (1, 11, (rf 4 0)), (2, 12, (di v_1.k)), (3, 13, (rf 100006 0)), (4, 14, (rf 100006 2)), (5, 15, (rf 100006 2)), (6, 16, (.one (.fn 41 []))), (7, 17, (.agg (qVal v_1))), (8, 18, (ow 100008)), (9, 2, (ow 100008)), (10, 3, (di 0))] [(0, 100004, some (.var [(.ref 100006 0)])), (0, 100006, some (.var [(.dat (.con .nilFunc)), (.fn 39 []), (.fn 41 []), (.fn 43 [.inl 100004]), (.fn 44 [.inl 100004])])), (8, 100008, some (.row 5 1 (r_13.map elB)))] [0, 1, 2, 4, 100004, 100006, 100008] 11 [0, 0, 2, 1, 15, 31, 63, 0, 255, 511, 1023] 257 [0, 1, 257] [0, 8] none (by kernel_rfl) (by decide) (by kernel_rfl) (by kernel_rfl) (by kernel_rfl) (by kernel_rfl) (by kernel_rfl) (by kernel_rfl) (by kernel_rfl) (zs zt (zs zt (zs zt (zs zt (zs (eq_of_beq b12) (zs zt (zs zt (zs zt (zs zt (zs zt (zs zt zS))))))))))) ?_ (fun _ => ?_))
  intro c hc; simp only [List.mem_cons, List.not_mem_nil, or_false] at hc; rcases hc with rfl | rfl
  exact ⟨_, rfl, callU (hand := [0, 1, 2]) (nb := 100003) [] (newWriter_ret) [0, 1, 2, 4, 100004, 100006, 100008] (by decide) rfl rfl 0 _ _ _ (by kernel_rfl) (by kernel_rfl) (by kernel_rfl) (by kernel_rfl) (by kernel_rfl) (by kernel_rfl)⟩
  exact ⟨_, rfl, callU (hand := [0, 1, 2]) (nb := 100007) [] (CT.nil (n := 3) (ls := [(.agg (qVal v_1))]) (bx := ghosts) 5 1 (g_codec_newWriter_2_ret e15) (by kernel_rfl) (by kernel_rfl) (by kernel_rfl)) [0, 1, 2, 4, 100004, 100006, 100008] (by decide) rfl rfl 8 _ _ _ (by kernel_rfl) (by kernel_rfl) (by kernel_rfl) (by kernel_rfl) (by kernel_rfl) (by kernel_rfl)⟩
  refine T_turn [] [2, 3] [4, 100004, 100006] (mk 19 [(2, (ow 100008)), (3, (di 0))] [(0, gB0), (1, gB1), (2, gB2), (100008, (.row 5 1 (r_13.map elB)))]) (by kernel_rfl) ?_
  refine T_arr [.ice 100008] [2, 3] [100008] [0, 1, 2] (mk 19 [(2, (dt (.sl 1 (r_13.map elB)))), (3, (di 0))] ghosts) (by kernel_rfl) ?_
  refine T_ret ?_
  obtain rfl := some_inv h
  exact ⟨[(dt (.sl 1 (r_13.map elB))), (di 0)], by kernel_rfl, rfl⟩
  replace h := hz17 rfl
  obtain rfl := some_inv h
  refine T_seq (T_stC [{}, {}, {}, {}, { h := zd (I 2) }, {}, {}, {}, {}, {}, {}] _ [(0, 10, (rf 100006 0)), (1, 11, (rf 4 0)), (2, 12, (di v_1.k)), (3, 13, (rf 100006 0)), (4, 14, (rf 100006 2)), (5, 15, (rf 100006 2)), (6, 16, (.one (.fn 41 []))), (7, 17, (.agg (qVal v_1)))] [(0, 100004, some (.var [(.ref 100006 0)])), (0, 100006, some (.var [(.dat (.con .nilFunc)), (.fn 39 []), (.fn 41 []), (.fn 43 [.inl 100004]), (.fn 44 [.inl 100004])]))] [0, 1, 2, 4, 100004, 100006] 11 [0, 0, 2, 1, 15, 31, 63, 0, 255, 511, 1023] 1793 [0, 1] [0, 8] (some 8) (by kernel_rfl) (by decide) (by kernel_rfl) (by kernel_rfl) (by kernel_rfl) (by kernel_rfl) (by kernel_rfl) (by kernel_rfl) (by kernel_rfl) (zs zt (zs zt (zs zt (zs zt (zs (eq_of_beq b12) (zs zt (zs zt (zs zt (zs zt (zs zt (zs zt zS))))))))))) ?_ (fun h => absurd h (by decide)))
  intro c hc; simp only [List.mem_cons, List.not_mem_nil, or_false] at hc; rcases hc with rfl | rfl
  exact ⟨_, rfl, callU (hand := [0, 1, 2]) (nb := 100003) [] (newWriter_ret) [0, 1, 2, 4, 100004, 100006] (by decide) rfl rfl 0 _ _ _ (by kernel_rfl) (by kernel_rfl) (by kernel_rfl) (by kernel_rfl) (by kernel_rfl) (by kernel_rfl)⟩
  refine ⟨_, rfl, callP (hand := [0, 1, 2]) (nb := 100007) [] (CT.nil (n := 3) (ls := [(.agg (qVal v_1))]) (bx := ghosts) 5 1 (g_codec_newWriter_2_ret e15) (by kernel_rfl) (by kernel_rfl) (by kernel_rfl)) rfl rfl 8 _ _ _ (by kernel_rfl) (by kernel_rfl) (by kernel_rfl) (by kernel_rfl) (fun _ _ hlk => ?_)⟩
  exact (show _ ∧ _ from ⟨rfl, ⟨_, rfl, lk3 ((after_lk (by kernel_rfl) rfl).trans (by rw [hlk 0 (by decide)]; kernel_rfl)) ((after_lk (by kernel_rfl) rfl).trans (by rw [hlk 1 (by decide)]; kernel_rfl)) ((after_lk (by kernel_rfl) rfl).trans (by rw [hlk 2 (by decide)]; kernel_rfl))⟩⟩)
  replace h := ite_f b12 h
  rcases Bool.eq_false_or_eq_true (v_1.k == 3) with b18 | b18
  replace h := ite_t b18 h
  obtain ⟨y20, e21, hk22, hz23⟩ := bdP_inv h
  rcases y20 with r_19 | u
  replace h := hk22 _ rfl
  refine T_seq (T_stC [{}, {}, {}, {}, { h := zd (I 3) }, {}, {}, {}, {}, {}, {}] _ [(0, 10, (rf 100006 0)), (1, 11, (rf 4 0)), (2, 12, (di v_1.k)), (3, 13, (rf 100006 0)), (4, 14, (rf 100006 3)), (5, 15, (rf 100006 3)), (6, 16, (.one (.fn 43 [.inl 100004]))), (7, 17, (.agg (qVal v_1))), (8, 18, (ow 100008)), (9, 2, (ow 100008)), (10, 3, (di 0))] [(0, 100004, some (.var [(.ref 100006 0)])), (0, 100006, some (.var [(.dat (.con .nilFunc)), (.fn 39 []), (.fn 41 []), (.fn 43 [.inl 100004]), (.fn 44 [.inl 100004])])), (8, 100008, some (.row 5 1 (r_19.map elB)))] [0, 1, 2, 4, 100004, 100006, 100008] 11 [0, 0, 2, 1, 15, 31, 63, 0, 255, 511, 1023] 257 [0, 1, 257] [0, 8] none (by kernel_rfl) (by decide) (by kernel_rfl) (by kernel_rfl) (by kernel_rfl) (by kernel_rfl) (by kernel_rfl) (by kernel_rfl) (by kernel_rfl) (zs zt (zs zt (zs zt (zs zt (zs (eq_of_beq b18) (zs zt (zs zt (zs zt (zs zt (zs zt (zs zt zS))))))))))) ?_ (fun _ => ?_))
  intro c hc; simp only [List.mem_cons, List.not_mem_nil, or_false] at hc; rcases hc with rfl | rfl
  exact ⟨_, rfl, callU (hand := [0, 1, 2]) (nb := 100003) [] (newWriter_ret) [0, 1, 2, 4, 100004, 100006, 100008] (by decide) rfl rfl 0 _ _ _ (by kernel_rfl) (by kernel_rfl) (by kernel_rfl) (by kernel_rfl) (by kernel_rfl) (by kernel_rfl)⟩
  exact ⟨_, rfl, callU (hand := [0, 1, 2, 100004, 100006]) (nb := 100007) [.inl 100004] (CT.nil (n := 5) (ls := [(.agg (qVal v_1)), (rf 3 0)]) (bx := [(0, gB0), (1, gB1), (2, gB2), (3, (.var [(.ref 4 0)])), (4, (.var [(.dat (.con .nilFunc)), (.fn 39 []), (.fn 41 []), (.fn 43 [.inl 3]), (.fn 44 [.inl 3])]))]) 5 1 ((g_writer_ret 60).1 e21) (by kernel_rfl) (by kernel_rfl) (by kernel_rfl)) [0, 1, 2, 4, 100004, 100006, 100008] (by decide) rfl rfl 8 _ _ _ (by kernel_rfl) (by kernel_rfl) (by kernel_rfl) (by kernel_rfl) (by kernel_rfl) (by kernel_rfl)⟩
  refine T_turn [] [2, 3] [4, 100004, 100006] (mk 19 [(2, (ow 100008)), (3, (di 0))] [(0, gB0), (1, gB1), (2, gB2), (100008, (.row 5 1 (r_19.map elB)))]) (by kernel_rfl) ?_
  refine T_arr [.ice 100008] [2, 3] [100008] [0, 1, 2] (mk 19 [(2, (dt (.sl 1 (r_19.map elB)))), (3, (di 0))] ghosts) (by kernel_rfl) ?_
  refine T_ret ?_
  obtain rfl := some_inv h
  exact ⟨[(dt (.sl 1 (r_19.map elB))), (di 0)], by kernel_rfl, rfl⟩
  replace h := hz23 rfl
  obtain rfl := some_inv h
  refine T_seq (T_stC [{}, {}, {}, {}, { h := zd (I 3) }, {}, {}, {}, {}, {}, {}] _ [(0, 10, (rf 100006 0)), (1, 11, (rf 4 0)), (2, 12, (di v_1.k)), (3, 13, (rf 100006 0)), (4, 14, (rf 100006 3)), (5, 15, (rf 100006 3)), (6, 16, (.one (.fn 43 [.inl 100004]))), (7, 17, (.agg (qVal v_1)))] [(0, 100004, some (.var [(.ref 100006 0)])), (0, 100006, some (.var [(.dat (.con .nilFunc)), (.fn 39 []), (.fn 41 []), (.fn 43 [.inl 100004]), (.fn 44 [.inl 100004])]))] [0, 1, 2, 4, 100004, 100006] 11 [0, 0, 2, 1, 15, 31, 63, 0, 255, 511, 1023] 1793 [0, 1] [0, 8] (some 8) (by kernel_rfl) (by decide) (by kernel_rfl) (by kernel_rfl) (by kernel_rfl) (by kernel_rfl) (by kernel_rfl) (by kernel_rfl) (by kernel_rfl) (zs zt (zs zt (zs zt (zs zt (zs (eq_of_beq b18) (zs zt (zs zt (zs zt (zs zt (zs zt (zs zt zS))))))))))) ?_ (fun h => absurd h (by decide)))
  intro c hc; simp only [List.mem_cons, List.not_mem_nil, or_false] at hc; rcases hc with rfl | rfl
  exact ⟨_, rfl, callU (hand := [0, 1, 2]) (nb := 100003) [] (newWriter_ret) [0, 1, 2, 4, 100004, 100006] (by decide) rfl rfl 0 _ _ _ (by kernel_rfl) (by kernel_rfl) (by kernel_rfl) (by kernel_rfl) (by kernel_rfl) (by kernel_rfl)⟩
  refine ⟨_, rfl, callP (hand := [0, 1, 2, 100004, 100006]) (nb := 100007) [.inl 100004] (CT.nil (n := 5) (ls := [(.agg (qVal v_1)), (rf 3 0)]) (bx := [(0, gB0), (1, gB1), (2, gB2), (3, (.var [(.ref 4 0)])), (4, (.var [(.dat (.con .nilFunc)), (.fn 39 []), (.fn 41 []), (.fn 43 [.inl 3]), (.fn 44 [.inl 3])]))]) 5 1 ((g_writer_ret 60).1 e21) (by kernel_rfl) (by kernel_rfl) (by kernel_rfl)) rfl rfl 8 _ _ _ (by kernel_rfl) (by kernel_rfl) (by kernel_rfl) (by kernel_rfl) (fun _ _ hlk => ?_)⟩
  exact (show _ ∧ _ from ⟨rfl, ⟨_, rfl, lk3 ((after_lk (by kernel_rfl) rfl).trans (by rw [hlk 0 (by decide)]; kernel_rfl)) ((after_lk (by kernel_rfl) rfl).trans (by rw [hlk 1 (by decide)]; kernel_rfl)) ((after_lk (by kernel_rfl) rfl).trans (by rw [hlk 2 (by decide)]; kernel_rfl))⟩⟩)
  replace h := ite_f b18 h
  obtain ⟨c24, h⟩ := ck_inv h
  obtain ⟨y26, e27, hk28, hz29⟩ := bdP_inv h
  rcases y26 with r_25 | u
  replace h := hk28 _ rfl
  refine T_seq (T_stC [{}, {}, {}, {}, { h := zd (I 4) }, {}, {}, {}, {}, {}, {}] _ [(0, 10, (rf 100006 0)), (1, 11, (rf 4 0)), (2, 12, (di v_1.k)), (3, 13, (rf 100006 0)), (4, 14, (rf 100006 4)), (5, 15, (rf 100006 4)), (6, 16, (.one (.fn 44 [.inl 100004]))), (7, 17, (.agg (qVal v_1))), (8, 18, (ow 100008)), (9, 2, (ow 100008)), (10, 3, (di 0))] [(0, 100004, some (.var [(.ref 100006 0)])), (0, 100006, some (.var [(.dat (.con .nilFunc)), (.fn 39 []), (.fn 41 []), (.fn 43 [.inl 100004]), (.fn 44 [.inl 100004])])), (8, 100008, some (.row 5 1 (r_25.map elB)))] [0, 1, 2, 4, 100004, 100006, 100008] 11 [0, 0, 2, 1, 15, 31, 63, 0, 255, 511, 1023] 257 [0, 1, 257] [0, 8] none (by kernel_rfl) (by decide) (by kernel_rfl) (by kernel_rfl) (by kernel_rfl) (by kernel_rfl) (by kernel_rfl) (by kernel_rfl) (by kernel_rfl) (zs zt (zs zt (zs zt (zs zt (zs c24 (zs zt (zs zt (zs zt (zs zt (zs zt (zs zt zS))))))))))) ?_ (fun _ => ?_))
  intro c hc; simp only [List.mem_cons, List.not_mem_nil, or_false] at hc; rcases hc with rfl | rfl
  exact ⟨_, rfl, callU (hand := [0, 1, 2]) (nb := 100003) [] (newWriter_ret) [0, 1, 2, 4, 100004, 100006, 100008] (by decide) rfl rfl 0 _ _ _ (by kernel_rfl) (by kernel_rfl) (by kernel_rfl) (by kernel_rfl) (by kernel_rfl) (by kernel_rfl)⟩
  exact ⟨_, rfl, callU (hand := [0, 1, 2, 100004, 100006]) (nb := 100007) [.inl 100004] (CT.nil (n := 5) (ls := [(.agg (qVal v_1)), (rf 3 0)]) (bx := [(0, gB0), (1, gB1), (2, gB2), (3, (.var [(.ref 4 0)])), (4, (.var [(.dat (.con .nilFunc)), (.fn 39 []), (.fn 41 []), (.fn 43 [.inl 3]), (.fn 44 [.inl 3])]))]) 5 1 ((g_writer_ret 60).2 e27) (by kernel_rfl) (by kernel_rfl) (by kernel_rfl)) [0, 1, 2, 4, 100004, 100006, 100008] (by decide) rfl rfl 8 _ _ _ (by kernel_rfl) (by kernel_rfl) (by kernel_rfl) (by kernel_rfl) (by kernel_rfl) (by kernel_rfl)⟩
  refine T_turn [] [2, 3] [4, 100004, 100006] (mk 19 [(2, (ow 100008)), (3, (di 0))] [(0, gB0), (1, gB1), (2, gB2), (100008, (.row 5 1 (r_25.map elB)))]) (by kernel_rfl) ?_
  refine T_arr [.ice 100008] [2, 3] [100008] [0, 1, 2] (mk 19 [(2, (dt (.sl 1 (r_25.map elB)))), (3, (di 0))] ghosts) (by kernel_rfl) ?_
  refine T_ret ?_
  obtain rfl := some_inv h
  exact ⟨[(dt (.sl 1 (r_25.map elB))), (di 0)], by kernel_rfl, rfl⟩
  replace h := hz29 rfl
  obtain rfl := some_inv h
  refine T_seq (T_stC [{}, {}, {}, {}, { h := zd (I 4) }, {}, {}, {}, {}, {}, {}] _ [(0, 10, (rf 100006 0)), (1, 11, (rf 4 0)), (2, 12, (di v_1.k)), (3, 13, (rf 100006 0)), (4, 14, (rf 100006 4)), (5, 15, (rf 100006 4)), (6, 16, (.one (.fn 44 [.inl 100004]))), (7, 17, (.agg (qVal v_1)))] [(0, 100004, some (.var [(.ref 100006 0)])), (0, 100006, some (.var [(.dat (.con .nilFunc)), (.fn 39 []), (.fn 41 []), (.fn 43 [.inl 100004]), (.fn 44 [.inl 100004])]))] [0, 1, 2, 4, 100004, 100006] 11 [0, 0, 2, 1, 15, 31, 63, 0, 255, 511, 1023] 1793 [0, 1] [0, 8] (some 8) (by kernel_rfl) (by decide) (by kernel_rfl) (by kernel_rfl) (by kernel_rfl) (by kernel_rfl) (by kernel_rfl) (by kernel_rfl) (by kernel_rfl) (zs zt (zs zt (zs zt (zs zt (zs c24 (zs zt (zs zt (zs zt (zs zt (zs zt (zs zt zS))))))))))) ?_ (fun h => absurd h (by decide)))
  intro c hc; simp only [List.mem_cons, List.not_mem_nil, or_false] at hc; rcases hc with rfl | rfl
  exact ⟨_, rfl, callU (hand := [0, 1, 2]) (nb := 100003) [] (newWriter_ret) [0, 1, 2, 4, 100004, 100006] (by decide) rfl rfl 0 _ _ _ (by kernel_rfl) (by kernel_rfl) (by kernel_rfl) (by kernel_rfl) (by kernel_rfl) (by kernel_rfl)⟩
  refine ⟨_, rfl, callP (hand := [0, 1, 2, 100004, 100006]) (nb := 100007) [.inl 100004] (CT.nil (n := 5) (ls := [(.agg (qVal v_1)), (rf 3 0)]) (bx := [(0, gB0), (1, gB1), (2, gB2), (3, (.var [(.ref 4 0)])), (4, (.var [(.dat (.con .nilFunc)), (.fn 39 []), (.fn 41 []), (.fn 43 [.inl 3]), (.fn 44 [.inl 3])]))]) 5 1 ((g_writer_ret 60).2 e27) (by kernel_rfl) (by kernel_rfl) (by kernel_rfl)) rfl rfl 8 _ _ _ (by kernel_rfl) (by kernel_rfl) (by kernel_rfl) (by kernel_rfl) (fun _ _ hlk => ?_)⟩
  exact (show _ ∧ _ from ⟨rfl, ⟨_, rfl, lk3 ((after_lk (by kernel_rfl) rfl).trans (by rw [hlk 0 (by decide)]; kernel_rfl)) ((after_lk (by kernel_rfl) rfl).trans (by rw [hlk 1 (by decide)]; kernel_rfl)) ((after_lk (by kernel_rfl) rfl).trans (by rw [hlk 2 (by decide)]; kernel_rfl))⟩⟩)

end Go.Proofs.YtimalbkjflfdoaaDoor

namespace Go.Proofs.YtimalbkjflfdoaaDoor
open Go.DL
set_option maxRecDepth 100000
set_option maxHeartbeats 4000000
noncomputable def g_law02_sane_j2 : Option ((Bool) ⊕ Unit) :=
  bd (g_codec_Check (⟨0, 0, ([] : List UInt8), ([] : List Val), ([] : List (List UInt8))⟩ : Val)) fun r_23 => some (.inl (r_23 == 1))
noncomputable def g_law02_sane_l3 (v : Nat) : Option ((Nat) ⊕ ((Bool) ⊕ Unit)) :=
  match v with | v_25 => if (decide (((v_25 : Nat) : Int) < ((([([105, 45, 48, 101] : List UInt8), ([105, 48, 51, 101] : List UInt8), ([48, 49, 58, 97] : List UInt8), ([100, 49, 58, 98, 105, 49, 101, 49, 58, 97, 105, 50, 101, 101] : List UInt8), ([105, 51, 101, 32] : List UInt8), ([] : List UInt8)]).length : Nat) : Int))) = true then (gn ([([105, 45, 48, 101] : List UInt8), ([105, 48, 51, 101] : List UInt8), ([48, 49, 58, 97] : List UInt8), ([100, 49, 58, 98, 105, 49, 101, 49, 58, 97, 105, 50, 101, 101] : List UInt8), ([105, 51, 101, 32] : List UInt8), ([] : List UInt8)]) v_25 fun x_28 => ck (x_28.length ≤ 140737488355328) <| bdP (g_codec_Decode x_28) (fun r_33 => if (r_33.2 != 20) = true then (up (some (.inl false))) else ckI (((v_25 : Nat) : Int) + 1) <| some (.inl (v_25 + 1))) (up (some (.inr ())))) else up (g_law02_sane_j2)
noncomputable def g_law02_sane_j1 (v_21 : Bool) : Option ((Bool) ⊕ Unit) :=
  if (v_21) = true then (some (.inl false)) else loopO g_law02_sane_l3 0
noncomputable def g_law02_sane : Option ((Bool) ⊕ Unit) :=
  bd (g_ref02_Int (-3)) fun r_1 => bd (g_ref02_Text ([97, 98] : List UInt8)) fun r_3 => bd (g_ref02_List ([r_1, r_3])) fun r_5 => bdP (g_codec_Encode r_5) (fun r_7 => bdP (g_codec_Decode ([100, 49, 58, 97, 105, 49, 101, 101] : List UInt8)) (fun r_12 => bd (g_codec_Get r_12.1 ([97] : List UInt8)) fun r_17 => bd (g_codec_Get r_12.1 ([98] : List UInt8)) fun r_19 => if (r_7.2 != 0) = true then (g_law02_sane_j1 true) else if (!(r_7.1 == ([108, 105, 45, 51, 101, 50, 58, 97, 98, 101] : List UInt8))) = true then (g_law02_sane_j1 true) else if (r_12.2 != 0) = true then (g_law02_sane_j1 true) else if (!(r_17.2)) = true then (g_law02_sane_j1 true) else if (r_19.2) = true then (g_law02_sane_j1 true) else if (r_17.1.k != 1) = true then (g_law02_sane_j1 true) else if (r_17.1.n != 1) = true then (g_law02_sane_j1 true) else bd (g_codec_Same 60 r_12.1 r_12.1) fun r_47 => if (!(r_47)) = true then (g_law02_sane_j1 true) else bd (g_codec_Same 60 r_12.1 r_17.1) fun r_50 => g_law02_sane_j1 (r_50)) (some (.inr ()))) (some (.inr ()))
noncomputable def g_law02_CodecDecodeSpec (b_1 : List UInt8) : Option ((Bool) ⊕ Unit) :=
  bdP (g_law02_sane) (fun r_2 => if (!(r_2)) = true then (some (.inl false)) else if (decide (((b_1.length : Nat) : Int) > 2000)) = true then (some (.inl true)) else bdP (g_codec_Decode b_1) (fun r_9 => bdP (g_ref02_Decode b_1) (fun r_14 => bd (g_ref02_Same 60 r_9.1 r_14.1) fun r_19 => if (r_19) = true then (some (.inl (r_9.2 == r_14.2))) else some (.inl false)) (some (.inr ()))) (some (.inr ()))) (some (.inr ()))
end Go.Proofs.YtimalbkjflfdoaaDoor

namespace Go.Proofs.YtimalbkjflfdoaaDoor
open Go.DL
set_option maxRecDepth 100000
set_option maxHeartbeats 4000000
theorem g_law02_sane_ret {r : (Bool) ⊕ Unit} (h : g_law02_sane = some r) : CT Tryd.prog 10 3 [] ghosts (CoR 3 ghosts (fun x => ((db (x)), ghosts)) (.iface 29 (.int .i64 20)) r) := by
  refine CT.of_T Tryd.func10 (by kernel_rfl) rfl ?_
  refine T_turn [] [] [] (mk 94 [] ghosts) (by kernel_rfl) ?_
  refine T_reg [] [] [] (mk 94 [] ghosts) _ (by kernel_rfl) (z2 zt) ?_
  obtain ⟨r_1, e2, h⟩ := bd_inv h
  obtain ⟨r_3, e4, h⟩ := bd_inv h
  refine T_seq (T_parts ?_)
  refine TL_part 2 [(zd (ndcVal r_1)), (zd (ndcVal r_3))] (mk 94 [(14, (.agg (qVal r_1))), (15, (.agg (qVal r_3)))] ghosts) _ (by kernel_rfl) (z1 (zc (g_ref02_Int_ret e2) (z1 (zc (g_ref02_Text_ret e4) zt)))) rfl ?_
  refine TL_part 1 [] (mk 94 [(14, (.agg (qVal r_1))), (15, (.agg (qVal r_3))), (16, (ow 19))] [(19, (.row 25 5 [ndcVal r_1, ndcVal r_3])), (0, gB0), (1, gB1), (2, gB2)]) _ (by kernel_rfl) (z1 (zc (show dfill (fun i => some (i * 5, 5)) (List.replicate (2 * 5) .junk) [(0, [(.dat (I r_1.k)), (.dat (I r_1.n)), (.dat (.str r_1.s)), (.dat (.sl 5 (r_1.l.map encVal))), (.dat (.sl 1 (r_1.ks.map elStr)))]), (1, [(.dat (I r_3.k)), (.dat (I r_3.n)), (.dat (.str r_3.s)), (.dat (.sl 5 (r_3.l.map encVal))), (.dat (.sl 1 (r_3.ks.map elStr)))])] = some ((flat [ndcVal r_1, ndcVal r_3]).map .dat) from rfl) zt)) rfl ?_
  refine TL_turn [] [14, 15, 16] [] (mk 94 [(14, (.agg (qVal r_1))), (15, (.agg (qVal r_3))), (16, (ow 19))] [(19, (.row 25 5 ([r_1, r_3].map encVal))), (0, gB0), (1, gB1), (2, gB2)]) (by rw [show [r_1, r_3].map encVal = [ndcVal r_1, ndcVal r_3] from by simp only [List.map_cons, List.map_nil, encVal_nd]]; kernel_rfl) ?_
  obtain ⟨r_5, e6, h⟩ := bd_inv h
  refine TL_turn [19] [14, 15, 16] [] (mk 94 [(14, (.agg (qVal r_1))), (15, (.agg (qVal r_3))), (16, (dt (.sl 5 ([r_1, r_3].map encVal))))] ghosts) (by kernel_rfl) ?_
  refine TL_part 1 [(zd (ndcVal r_5))] (mk 94 [(14, (.agg (qVal r_1))), (15, (.agg (qVal r_3))), (16, (dt (.sl 5 ([r_1, r_3].map encVal)))), (17, (.agg (qVal r_5)))] ghosts) _ (by kernel_rfl) (z1 (zc (g_ref02_List_ret e6) zt)) rfl ?_
  obtain ⟨y8, e9, hk10, hz11⟩ := bdP_inv h
  refine TL_ct 12 [0, 1, 2] 100003 _ _ [] (g_codec_Encode_ret e9) rfl rfl (by kernel_rfl) (by kernel_rfl) (by kernel_rfl) (by kernel_rfl) (fun l bx' hR => ?_) (fun d bx' hR => ?_)
  obtain ⟨r_7, rfl, rfl, rfl⟩ := CoR_ret hR
  replace h := hk10 _ rfl
  refine TL_turn [] [18] [] (mk 94 [(18, (.tup [(false, [(.dat (.sl 1 (r_7.1.map elB)))]), (false, [(.dat (I r_7.2))])]))] ghosts) (by kernel_rfl) ?_
  refine TL_part 5 [] (mk 94 [(1, (dt (.sl 1 (r_7.1.map elB)))), (2, (di r_7.2)), (13, (.tup [(false, [(.dat (.sl 1 (r_7.1.map elB)))]), (false, [(.dat (I r_7.2))])])), (18, (.tup [(false, [(.dat (.sl 1 (r_7.1.map elB)))]), (false, [(.dat (I r_7.2))])])), (19, (dt (.sl 1 (r_7.1.map elB)))), (20, (di r_7.2))] ghosts) _ (by kernel_rfl) (z8 (z2 zt)) rfl ?_
  refine TL_nilQ ?_
  refine T_turn [] [1, 2] [] (mk 94 [(1, (dt (.sl 1 (r_7.1.map elB)))), (2, (di r_7.2))] ghosts) (by kernel_rfl) ?_
  refine T_seq (T_parts ?_)
  refine TL_part 1 [] (mk 94 [(1, (dt (.sl 1 (r_7.1.map elB)))), (2, (di r_7.2)), (22, (ow 25))] [(25, (.row 5 1 (([100, 49, 58, 97, 105, 49, 101, 101] : List UInt8).map elB))), (0, gB0), (1, gB1), (2, gB2)]) _ (by kernel_rfl) (z1 (zc (show dfill (fun i => some (i * 1, 1)) (List.replicate (8 * 1) .junk) [(0, [(.dat (.int .u8 100))]), (1, [(.dat (.int .u8 49))]), (2, [(.dat (.int .u8 58))]), (3, [(.dat (.int .u8 97))]), (4, [(.dat (.int .u8 105))]), (5, [(.dat (.int .u8 49))]), (6, [(.dat (.int .u8 101))]), (7, [(.dat (.int .u8 101))])] = some ((flat (([100, 49, 58, 97, 105, 49, 101, 101] : List UInt8).map elB)).map .dat) from rfl) zt)) rfl ?_
  refine TL_mark 28 5 23 25 ([100, 49, 58, 97, 105, 49, 101, 101] : List UInt8) rfl rfl rfl (by kernel_rfl) (by kernel_rfl) (by kernel_rfl) (by kernel_rfl) (by decide) ?_
  refine TL_turn [] [1, 2, 23] [] (mk 94 [(1, (dt (.sl 1 (r_7.1.map elB)))), (2, (di r_7.2)), (23, (ow 25))] [(25, (.obj (rowM 5 (([100, 49, 58, 97, 105, 49, 101, 101] : List UInt8))))), (0, gB0), (1, gB1), (2, gB2)]) (by kernel_rfl) ?_
  refine TL_frzM (e := 5) (bs := ([100, 49, 58, 97, 105, 49, 101, 101] : List UInt8)) 25 (mk 94 [(1, (dt (.sl 1 (r_7.1.map elB)))), (2, (di r_7.2)), (23, (dt (.sl 1 (([100, 49, 58, 97, 105, 49, 101, 101] : List UInt8).map elB))))] ghosts) (by kernel_rfl) (by kernel_rfl) ?_
  obtain ⟨y13, e14, hk15, hz16⟩ := bdP_inv h
  refine TL_ct 16 [0, 1, 2] 100003 _ _ [] (g_codec_Decode_ret e14) rfl rfl (by kernel_rfl) (by kernel_rfl) (by kernel_rfl) (by kernel_rfl) (fun l bx' hR => ?_) (fun d bx' hR => ?_)
  obtain ⟨r_12, rfl, rfl, rfl⟩ := CoR_ret hR
  replace h := hk15 _ rfl
  refine TL_turn [] [1, 2, 24] [] (mk 94 [(1, (dt (.sl 1 (r_7.1.map elB)))), (2, (di r_7.2)), (24, (.tup [(true, (qVal r_12.1)), (false, [(.dat (I r_12.2))])]))] ghosts) (by kernel_rfl) ?_
  refine TL_part 6 [] (mk 94 [(1, (dt (.sl 1 (r_7.1.map elB)))), (2, (di r_7.2)), (3, (rf 6 0)), (4, (di r_12.2)), (21, (.tup [(true, (qVal r_12.1)), (false, [(.dat (I r_12.2))])])), (24, (.tup [(true, (qVal r_12.1)), (false, [(.dat (I r_12.2))])])), (25, (.agg (qVal r_12.1))), (26, (di r_12.2))] [(6, (.var (qVal r_12.1))), (0, gB0), (1, gB1), (2, gB2)]) _ (by kernel_rfl) (z8 (z4 zt)) rfl ?_
  refine TL_nilQ ?_
  refine T_turn [] [1, 2, 3, 4] [] (mk 94 [(1, (dt (.sl 1 (r_7.1.map elB)))), (2, (di r_7.2)), (3, (rf 6 0)), (4, (di r_12.2))] [(6, (.var (qVal r_12.1))), (0, gB0), (1, gB1), (2, gB2)]) (by kernel_rfl) ?_
  obtain ⟨r_17, e18, h⟩ := bd_inv h
  refine T_reg [zn, (zd (.tup [(ndcVal r_17.1), (B (r_17.2))]))] [1, 2, 3, 4, 5, 6] [] (mk 94 [(1, (dt (.sl 1 (r_7.1.map elB)))), (2, (di r_7.2)), (3, (rf 6 0)), (4, (di r_12.2)), (5, (rf 8 0)), (6, (db (r_17.2)))] [(8, (.var (qVal r_17.1))), (6, (.var (qVal r_12.1))), (0, gB0), (1, gB1), (2, gB2)]) _ (by kernel_rfl) (z3 (zc (g_codec_Get_ret e18) (z8 (z4 zt)))) ?_
  obtain ⟨r_19, e20, h⟩ := bd_inv h
  refine T_reg [zn, (zd (.tup [(ndcVal r_19.1), (B (r_19.2))]))] [1, 2, 3, 4, 5, 6, 8] [10] (mk 94 [(1, (dt (.sl 1 (r_7.1.map elB)))), (2, (di r_7.2)), (3, (rf 6 0)), (4, (di r_12.2)), (5, (rf 8 0)), (6, (db (r_17.2))), (8, (db (r_19.2)))] [(8, (.var (qVal r_17.1))), (6, (.var (qVal r_12.1))), (0, gB0), (1, gB1), (2, gB2)]) _ (by kernel_rfl) (z3 (zc (g_codec_Get_ret e20) (z8 (z4 zt)))) ?_
  refine T_seq ?_
  refine T_seqJ (α := Bool) (fun (v_21 : Bool) => (mk 94 [(75, (db (v_21)))] ghosts)) (fun (v_21 : Bool) => g_law02_sane_j1 v_21 = some r) (fun v_21 h => ?_) ?_
  refine T_cond (v_21) (by kernel_rfl) (fun b22 => ?_) (fun b22 => ?_)
  replace h := ite_t b22 h
  refine T_reg [] [0] [] (mk 94 [(0, (db false))] ghosts) _ (by kernel_rfl) (z2 zt) ?_
  refine T_arr [] [0] [] [0, 1, 2] (mk 94 [(0, (db false))] ghosts) (by kernel_rfl) ?_
  refine T_ret ?_
  obtain rfl := some_inv h
  exact ⟨[(db false)], by kernel_rfl, rfl⟩
  replace h := ite_f b22 h
  refine T_skip ?_
  refine T_seqJ (α := Unit) (fun (_ : Unit) => (mk 94 [] ghosts)) (fun (_ : Unit) => g_law02_sane_j2 = some r) (fun v h => ?_) ?_
  obtain ⟨r_23, e24, h⟩ := bd_inv h
  refine T_reg [zn, (zd (I r_23))] [0] [] (mk 94 [(0, (db (r_23 == 1)))] ghosts) _ (by kernel_rfl) (z3 (zc (show Ret Tryd.prog 14 [(.agg [(I 0), (I 0), (.str ([] : List UInt8)), nilS, nilS])] (I r_23) from (Ret.weak (g_codec_Check_ret e24) ⟨(Weak.agg ⟨Weak.refl _, Weak.refl _, Weak.refl _, Weak.nil 5, Weak.nil 1, trivial⟩), trivial⟩)) (z4 zt))) ?_
  refine T_arr [] [0] [] [0, 1, 2] (mk 94 [(0, (db (r_23 == 1)))] ghosts) (by kernel_rfl) ?_
  refine T_ret ?_
  obtain rfl := some_inv h
  exact ⟨[(db (r_23 == 1))], by kernel_rfl, rfl⟩
  refine T_reg [zn, (zd (I ((([([105, 45, 48, 101] : List UInt8), ([105, 48, 51, 101] : List UInt8), ([48, 49, 58, 97] : List UInt8), ([100, 49, 58, 98, 105, 49, 101, 49, 58, 97, 105, 50, 101, 101] : List UInt8), ([105, 51, 101, 32] : List UInt8), ([] : List UInt8)]).length : Nat) : Int)))] [76, 77, 78] [] (mk 94 [(76, (ow 79)), (77, (di ((([([105, 45, 48, 101] : List UInt8), ([105, 48, 51, 101] : List UInt8), ([48, 49, 58, 97] : List UInt8), ([100, 49, 58, 98, 105, 49, 101, 49, 58, 97, 105, 50, 101, 101] : List UInt8), ([105, 51, 101, 32] : List UInt8), ([] : List UInt8)]).length : Nat) : Int))), (78, (di 0))] [(79, (.row 9 1 ([([105, 45, 48, 101] : List UInt8), ([105, 48, 51, 101] : List UInt8), ([48, 49, 58, 97] : List UInt8), ([100, 49, 58, 98, 105, 49, 101, 49, 58, 97, 105, 50, 101, 101] : List UInt8), ([105, 51, 101, 32] : List UInt8), ([] : List UInt8)].map elStr))), (0, gB0), (1, gB1), (2, gB2)]) _ (by kernel_rfl) (z1 (zc (show dfill (fun i => some (i * 1, 1)) (List.replicate (6 * 1) .junk) [(0, [(.dat (.str ([105, 45, 48, 101] : List UInt8)))]), (1, [(.dat (.str ([105, 48, 51, 101] : List UInt8)))]), (2, [(.dat (.str ([48, 49, 58, 97] : List UInt8)))]), (3, [(.dat (.str ([100, 49, 58, 98, 105, 49, 101, 49, 58, 97, 105, 50, 101, 101] : List UInt8)))]), (4, [(.dat (.str ([105, 51, 101, 32] : List UInt8)))]), (5, [(.dat (.str ([] : List UInt8)))])] = some ((flat ([([105, 45, 48, 101] : List UInt8), ([105, 48, 51, 101] : List UInt8), ([48, 49, 58, 97] : List UInt8), ([100, 49, 58, 98, 105, 49, 101, 49, 58, 97, 105, 50, 101, 101] : List UInt8), ([105, 51, 101, 32] : List UInt8), ([] : List UInt8)].map elStr)).map .dat) from rfl) (z1 (zc (len_s elStr ([([105, 45, 48, 101] : List UInt8), ([105, 48, 51, 101] : List UInt8), ([48, 49, 58, 97] : List UInt8), ([100, 49, 58, 98, 105, 49, 101, 49, 58, 97, 105, 50, 101, 101] : List UInt8), ([105, 51, 101, 32] : List UInt8), ([] : List UInt8)])) (z2 zt))))) ?_
  refine T_block ?_
  refine T_arr [] [76, 77, 78] [] [0, 1, 2, 79] _ (by kernel_rfl) (T_loopO (σ := Nat) (fun (v_25 : Nat) => (mk 94 [(76, (ow 79)), (77, (di ((([([105, 45, 48, 101] : List UInt8), ([105, 48, 51, 101] : List UInt8), ([48, 49, 58, 97] : List UInt8), ([100, 49, 58, 98, 105, 49, 101, 49, 58, 97, 105, 50, 101, 101] : List UInt8), ([105, 51, 101, 32] : List UInt8), ([] : List UInt8)]).length : Nat) : Int))), (78, (di ((v_25 : Nat) : Int)))] [(0, gB0), (1, gB1), (2, gB2), (79, (.row 9 1 ([([105, 45, 48, 101] : List UInt8), ([105, 48, 51, 101] : List UInt8), ([48, 49, 58, 97] : List UInt8), ([100, 49, 58, 98, 105, 49, 101, 49, 58, 97, 105, 50, 101, 101] : List UInt8), ([105, 51, 101, 32] : List UInt8), ([] : List UInt8)].map elStr)))])) (g_law02_sane_l3) 0 h (fun v_25 y1 hy1 h => ?_))
  refine T_reg [] [76, 77, 78, 79] [] (mk 94 [(76, (ow 79)), (77, (di ((([([105, 45, 48, 101] : List UInt8), ([105, 48, 51, 101] : List UInt8), ([48, 49, 58, 97] : List UInt8), ([100, 49, 58, 98, 105, 49, 101, 49, 58, 97, 105, 50, 101, 101] : List UInt8), ([105, 51, 101, 32] : List UInt8), ([] : List UInt8)]).length : Nat) : Int))), (78, (di ((v_25 : Nat) : Int))), (79, (db (decide (((v_25 : Nat) : Int) < ((([([105, 45, 48, 101] : List UInt8), ([105, 48, 51, 101] : List UInt8), ([48, 49, 58, 97] : List UInt8), ([100, 49, 58, 98, 105, 49, 101, 49, 58, 97, 105, 50, 101, 101] : List UInt8), ([105, 51, 101, 32] : List UInt8), ([] : List UInt8)]).length : Nat) : Int)))))] [(0, gB0), (1, gB1), (2, gB2), (79, (.row 9 1 ([([105, 45, 48, 101] : List UInt8), ([105, 48, 51, 101] : List UInt8), ([48, 49, 58, 97] : List UInt8), ([100, 49, 58, 98, 105, 49, 101, 49, 58, 97, 105, 50, 101, 101] : List UInt8), ([105, 51, 101, 32] : List UInt8), ([] : List UInt8)].map elStr)))]) _ (by kernel_rfl) (z2 zt) ?_
  refine T_seq ?_
  refine T_cond (decide (((v_25 : Nat) : Int) < ((([([105, 45, 48, 101] : List UInt8), ([105, 48, 51, 101] : List UInt8), ([48, 49, 58, 97] : List UInt8), ([100, 49, 58, 98, 105, 49, 101, 49, 58, 97, 105, 50, 101, 101] : List UInt8), ([105, 51, 101, 32] : List UInt8), ([] : List UInt8)]).length : Nat) : Int))) (by kernel_rfl) (fun b27 => ?_) (fun b27 => ?_)
  replace h := ite_t b27 h
  refine T_skip ?_
  refine T_seq ?_
  refine T_block ?_
  obtain ⟨x_28, e29, e30, e31, h⟩ := gn_inv elStr h
  refine T_reg [zn, (zd (.str x_28))] [10, 76, 77, 78] [] (mk 94 [(10, (dt (.str x_28))), (76, (ow 79)), (77, (di ((([([105, 45, 48, 101] : List UInt8), ([105, 48, 51, 101] : List UInt8), ([48, 49, 58, 97] : List UInt8), ([100, 49, 58, 98, 105, 49, 101, 49, 58, 97, 105, 50, 101, 101] : List UInt8), ([105, 51, 101, 32] : List UInt8), ([] : List UInt8)]).length : Nat) : Int))), (78, (di ((v_25 : Nat) : Int)))] [(0, gB0), (1, gB1), (2, gB2), (79, (.row 9 1 ([([105, 45, 48, 101] : List UInt8), ([105, 48, 51, 101] : List UInt8), ([48, 49, 58, 97] : List UInt8), ([100, 49, 58, 98, 105, 49, 101, 49, 58, 97, 105, 50, 101, 101] : List UInt8), ([105, 51, 101, 32] : List UInt8), ([] : List UInt8)].map elStr)))]) _ (by kernel_rfl) (z1 (zc e30 (z1 (zc e31 (z2 zt))))) ?_
  refine T_seq (T_parts ?_)
  refine TL_part 1 [] (mk 94 [(10, (dt (.str x_28))), (76, (ow 79)), (77, (di ((([([105, 45, 48, 101] : List UInt8), ([105, 48, 51, 101] : List UInt8), ([48, 49, 58, 97] : List UInt8), ([100, 49, 58, 98, 105, 49, 101, 49, 58, 97, 105, 50, 101, 101] : List UInt8), ([105, 51, 101, 32] : List UInt8), ([] : List UInt8)]).length : Nat) : Int))), (78, (di ((v_25 : Nat) : Int))), (83, (dt (.str x_28)))] [(0, gB0), (1, gB1), (2, gB2), (79, (.row 9 1 ([([105, 45, 48, 101] : List UInt8), ([105, 48, 51, 101] : List UInt8), ([48, 49, 58, 97] : List UInt8), ([100, 49, 58, 98, 105, 49, 101, 49, 58, 97, 105, 50, 101, 101] : List UInt8), ([105, 51, 101, 32] : List UInt8), ([] : List UInt8)].map elStr)))]) _ (by kernel_rfl) (z2 zt) rfl ?_
  obtain ⟨c32, h⟩ := ck_inv h
  refine TL_bytes 9 28 5 84 87 x_28 rfl rfl rfl (by kernel_rfl) (by kernel_rfl) (by kernel_rfl) (by kernel_rfl) c32 (by kernel_rfl) ?_
  refine TL_turn [] [76, 77, 78, 84] [] (mk 94 [(76, (ow 79)), (77, (di ((([([105, 45, 48, 101] : List UInt8), ([105, 48, 51, 101] : List UInt8), ([48, 49, 58, 97] : List UInt8), ([100, 49, 58, 98, 105, 49, 101, 49, 58, 97, 105, 50, 101, 101] : List UInt8), ([105, 51, 101, 32] : List UInt8), ([] : List UInt8)]).length : Nat) : Int))), (78, (di ((v_25 : Nat) : Int))), (84, (ow 87))] [(87, (.obj (rowM 5 x_28))), (0, gB0), (1, gB1), (2, gB2), (79, (.row 9 1 ([([105, 45, 48, 101] : List UInt8), ([105, 48, 51, 101] : List UInt8), ([48, 49, 58, 97] : List UInt8), ([100, 49, 58, 98, 105, 49, 101, 49, 58, 97, 105, 50, 101, 101] : List UInt8), ([105, 51, 101, 32] : List UInt8), ([] : List UInt8)].map elStr)))]) (by kernel_rfl) ?_
  refine TL_frzM (e := 5) (bs := x_28) 87 (mk 94 [(76, (ow 79)), (77, (di ((([([105, 45, 48, 101] : List UInt8), ([105, 48, 51, 101] : List UInt8), ([48, 49, 58, 97] : List UInt8), ([100, 49, 58, 98, 105, 49, 101, 49, 58, 97, 105, 50, 101, 101] : List UInt8), ([105, 51, 101, 32] : List UInt8), ([] : List UInt8)]).length : Nat) : Int))), (78, (di ((v_25 : Nat) : Int))), (84, (dt (.sl 1 (x_28.map elB))))] [(0, gB0), (1, gB1), (2, gB2), (79, (.row 9 1 ([([105, 45, 48, 101] : List UInt8), ([105, 48, 51, 101] : List UInt8), ([48, 49, 58, 97] : List UInt8), ([100, 49, 58, 98, 105, 49, 101, 49, 58, 97, 105, 50, 101, 101] : List UInt8), ([105, 51, 101, 32] : List UInt8), ([] : List UInt8)].map elStr)))]) (by kernel_rfl) (by kernel_rfl) ?_
  obtain ⟨y34, e35, hk36, hz37⟩ := bdP_inv h
  refine TL_ct 16 [0, 1, 2] 100003 _ _ [] (g_codec_Decode_ret e35) rfl rfl (by kernel_rfl) (by kernel_rfl) (by kernel_rfl) (by kernel_rfl) (fun l bx' hR => ?_) (fun d bx' hR => ?_)
  obtain ⟨r_33, rfl, rfl, rfl⟩ := CoR_ret hR
  replace h := hk36 _ rfl
  refine TL_turn [] [76, 77, 78, 85] [] (mk 94 [(76, (ow 79)), (77, (di ((([([105, 45, 48, 101] : List UInt8), ([105, 48, 51, 101] : List UInt8), ([48, 49, 58, 97] : List UInt8), ([100, 49, 58, 98, 105, 49, 101, 49, 58, 97, 105, 50, 101, 101] : List UInt8), ([105, 51, 101, 32] : List UInt8), ([] : List UInt8)]).length : Nat) : Int))), (78, (di ((v_25 : Nat) : Int))), (85, (.tup [(true, (qVal r_33.1)), (false, [(.dat (I r_33.2))])]))] [(79, (.row 9 1 ([([105, 45, 48, 101] : List UInt8), ([105, 48, 51, 101] : List UInt8), ([48, 49, 58, 97] : List UInt8), ([100, 49, 58, 98, 105, 49, 101, 49, 58, 97, 105, 50, 101, 101] : List UInt8), ([105, 51, 101, 32] : List UInt8), ([] : List UInt8)].map elStr))), (0, gB0), (1, gB1), (2, gB2)]) (by kernel_rfl) ?_
  refine TL_part 6 [] (mk 94 [(11, (rf 14 0)), (12, (di r_33.2)), (76, (ow 79)), (77, (di ((([([105, 45, 48, 101] : List UInt8), ([105, 48, 51, 101] : List UInt8), ([48, 49, 58, 97] : List UInt8), ([100, 49, 58, 98, 105, 49, 101, 49, 58, 97, 105, 50, 101, 101] : List UInt8), ([105, 51, 101, 32] : List UInt8), ([] : List UInt8)]).length : Nat) : Int))), (78, (di ((v_25 : Nat) : Int))), (82, (.tup [(true, (qVal r_33.1)), (false, [(.dat (I r_33.2))])])), (85, (.tup [(true, (qVal r_33.1)), (false, [(.dat (I r_33.2))])])), (86, (.agg (qVal r_33.1))), (87, (di r_33.2))] [(14, (.var (qVal r_33.1))), (79, (.row 9 1 ([([105, 45, 48, 101] : List UInt8), ([105, 48, 51, 101] : List UInt8), ([48, 49, 58, 97] : List UInt8), ([100, 49, 58, 98, 105, 49, 101, 49, 58, 97, 105, 50, 101, 101] : List UInt8), ([105, 51, 101, 32] : List UInt8), ([] : List UInt8)].map elStr))), (0, gB0), (1, gB1), (2, gB2)]) _ (by kernel_rfl) (z8 (z4 zt)) rfl ?_
  refine TL_nilQ ?_
  refine T_turn [] [12, 76, 77, 78] [14] (mk 94 [(12, (di r_33.2)), (76, (ow 79)), (77, (di ((([([105, 45, 48, 101] : List UInt8), ([105, 48, 51, 101] : List UInt8), ([48, 49, 58, 97] : List UInt8), ([100, 49, 58, 98, 105, 49, 101, 49, 58, 97, 105, 50, 101, 101] : List UInt8), ([105, 51, 101, 32] : List UInt8), ([] : List UInt8)]).length : Nat) : Int))), (78, (di ((v_25 : Nat) : Int)))] [(79, (.row 9 1 ([([105, 45, 48, 101] : List UInt8), ([105, 48, 51, 101] : List UInt8), ([48, 49, 58, 97] : List UInt8), ([100, 49, 58, 98, 105, 49, 101, 49, 58, 97, 105, 50, 101, 101] : List UInt8), ([105, 51, 101, 32] : List UInt8), ([] : List UInt8)].map elStr))), (0, gB0), (1, gB1), (2, gB2)]) (by kernel_rfl) ?_
  refine T_reg [] [76, 77, 78, 89] [] (mk 94 [(76, (ow 79)), (77, (di ((([([105, 45, 48, 101] : List UInt8), ([105, 48, 51, 101] : List UInt8), ([48, 49, 58, 97] : List UInt8), ([100, 49, 58, 98, 105, 49, 101, 49, 58, 97, 105, 50, 101, 101] : List UInt8), ([105, 51, 101, 32] : List UInt8), ([] : List UInt8)]).length : Nat) : Int))), (78, (di ((v_25 : Nat) : Int))), (89, (db (r_33.2 != 20)))] [(79, (.row 9 1 ([([105, 45, 48, 101] : List UInt8), ([105, 48, 51, 101] : List UInt8), ([48, 49, 58, 97] : List UInt8), ([100, 49, 58, 98, 105, 49, 101, 49, 58, 97, 105, 50, 101, 101] : List UInt8), ([105, 51, 101, 32] : List UInt8), ([] : List UInt8)].map elStr))), (0, gB0), (1, gB1), (2, gB2)]) _ (by kernel_rfl) (z4 zt) ?_
  refine T_cond (r_33.2 != 20) (by kernel_rfl) (fun b38 => ?_) (fun b38 => ?_)
  replace h := ite_t b38 h
  refine T_reg [] [0] [79] (mk 94 [(0, (db false))] ghosts) _ (by kernel_rfl) (z2 zt) ?_
  refine T_arr [] [0] [] [0, 1, 2] (mk 94 [(0, (db false))] ghosts) (by kernel_rfl) ?_
  refine T_ret ?_
  replace h := up_inv h hy1
  obtain rfl := some_inv h
  exact ⟨[(db false)], by kernel_rfl, rfl⟩
  replace h := ite_f b38 h
  refine T_skip ?_
  obtain ⟨c39, h⟩ := ckI_inv h
  exact T_regJ [(zd (I ((v_25 + 1 : Nat) : Int)))] [] [76, 77, 78] [] [0, 1, 2, 79] _ _ (by kernel_rfl) (z1 (zc c39 (z2 zt))) (fun s hs => Exists.intro (v_25 + 1) (And.intro h hs))
  obtain ⟨rfl, rfl, hlk⟩ := CoR_pan hR
  replace h := hz37 rfl
  replace h := up_inv h hy1
  obtain rfl := some_inv h
  exact (show _ ∧ _ from ⟨rfl, ⟨_, rfl, lk3 ((after_lk (by kernel_rfl) rfl).trans (by rw [hlk 0 (by decide)]; kernel_rfl)) ((after_lk (by kernel_rfl) rfl).trans (by rw [hlk 1 (by decide)]; kernel_rfl)) ((after_lk (by kernel_rfl) rfl).trans (by rw [hlk 2 (by decide)]; kernel_rfl))⟩⟩)
  replace h := ite_f b27 h
  refine T_exit ?_
  replace h := up_inv h hy1
  exact Exists.intro () (And.intro h (arr [] [] [79] [0, 1, 2] (by kernel_rfl)))
  rcases Bool.eq_false_or_eq_true (r_7.2 != 0) with b40 | b40
  replace h := ite_t b40 h
  exact T_regJ [zn, zn, zn, zg, zg, zg, (zd (B true)), zn, zg, zg, (zd (B true)), zn, zg, zg, (zd (B true)), zn, zg, (zd (B true)), zn, zg, zg, zg, (zd (B true)), zn, zg, zg, zg, (zd (B true)), zn, zg, zg, zg, zg, (zd (B true)), zn, zg, zg, zg, (zd (B true))] [] [75] [8, 6] [0, 1, 2] _ _ (by kernel_rfl) (z6 (zc (gd_tf b40) (zc (gd_tf b40) (zc (gd_tf b40) (z1 (zc b40 (z2 (zc (gd_tf (rfl : true = true)) (zc (gd_tf (rfl : true = true)) (z1 (zc (rfl : true = true) (z2 (zc (gd_tf (rfl : true = true)) (zc (gd_tf (rfl : true = true)) (z1 (zc (rfl : true = true) (z2 (zc (gd_tf (rfl : true = true)) (z1 (zc (rfl : true = true) (z2 (zc (gd_tf (rfl : true = true)) (zc (gd_tf (rfl : true = true)) (zc (gd_tf (rfl : true = true)) (z1 (zc (rfl : true = true) (z2 (zc (gd_tf (rfl : true = true)) (zc (gd_tf (rfl : true = true)) (zc (gd_tf (rfl : true = true)) (z1 (zc (rfl : true = true) (z2 (zc (gd_tf (rfl : true = true)) (zc (gd_tf (rfl : true = true)) (zc (gd_tf (rfl : true = true)) (zc (gd_tf (rfl : true = true)) (z1 (zc (rfl : true = true) (z2 (zc (gd_tf (rfl : true = true)) (zc (gd_tf (rfl : true = true)) (zc (gd_tf (rfl : true = true)) (z1 (zc (rfl : true = true) zt))))))))))))))))))))))))))))))))))))))))))))) (fun s hs => Exists.intro true (And.intro h hs))
  replace h := ite_f b40 h
  rcases Bool.eq_false_or_eq_true (!(r_7.1 == ([108, 105, 45, 51, 101, 50, 58, 97, 98, 101] : List UInt8))) with b41 | b41
  replace h := ite_t b41 h
  exact T_regJ [zn, zn, zn, zn, (zd (.str r_7.1)), zn, (zd (B false)), zn, zg, zg, (zd (B true)), zn, zg, zg, (zd (B true)), zn, zg, (zd (B true)), zn, zg, zg, zg, (zd (B true)), zn, zg, zg, zg, (zd (B true)), zn, zg, zg, zg, zg, (zd (B true)), zn, zg, zg, zg, (zd (B true))] [] [75] [8, 6] [0, 1, 2] _ _ (by kernel_rfl) (z6 (zc (gd_ff b40) (z1 (zc (gd_ff b40) (zc (rfl : r_7.1.map elB = r_7.1.map elB) (zc (gd_ff b40) (z2 (zc b40 (z2 (zc (gd_tf b41) (zc (gd_tf b41) (z1 (zc b41 (z2 (zc (gd_tf (rfl : true = true)) (zc (gd_tf (rfl : true = true)) (z1 (zc (rfl : true = true) (z2 (zc (gd_tf (rfl : true = true)) (z1 (zc (rfl : true = true) (z2 (zc (gd_tf (rfl : true = true)) (zc (gd_tf (rfl : true = true)) (zc (gd_tf (rfl : true = true)) (z1 (zc (rfl : true = true) (z2 (zc (gd_tf (rfl : true = true)) (zc (gd_tf (rfl : true = true)) (zc (gd_tf (rfl : true = true)) (z1 (zc (rfl : true = true) (z2 (zc (gd_tf (rfl : true = true)) (zc (gd_tf (rfl : true = true)) (zc (gd_tf (rfl : true = true)) (zc (gd_tf (rfl : true = true)) (z1 (zc (rfl : true = true) (z2 (zc (gd_tf (rfl : true = true)) (zc (gd_tf (rfl : true = true)) (zc (gd_tf (rfl : true = true)) (z1 (zc (rfl : true = true) zt))))))))))))))))))))))))))))))))))))))))))))))) (fun s hs => Exists.intro true (And.intro h hs))
  replace h := ite_f b41 h
  rcases Bool.eq_false_or_eq_true (r_12.2 != 0) with b42 | b42
  replace h := ite_t b42 h
  exact T_regJ [zn, zn, zn, zn, (zd (.str r_7.1)), zn, (zd (B false)), zn, zn, zn, (zd (B false)), zn, zg, zg, (zd (B true)), zn, zg, (zd (B true)), zn, zg, zg, zg, (zd (B true)), zn, zg, zg, zg, (zd (B true)), zn, zg, zg, zg, zg, (zd (B true)), zn, zg, zg, zg, (zd (B true))] [] [75] [8, 6] [0, 1, 2] _ _ (by kernel_rfl) (z6 (zc (gd_ff b40) (z1 (zc (gd_ff b40) (zc (rfl : r_7.1.map elB = r_7.1.map elB) (zc (gd_ff b40) (z2 (zc b40 (z2 (zc (gd_ff b41) (z1 (zc (gd_ff b41) (z2 (zc b41 (z2 (zc (gd_tf b42) (zc (gd_tf b42) (z1 (zc b42 (z2 (zc (gd_tf (rfl : true = true)) (z1 (zc (rfl : true = true) (z2 (zc (gd_tf (rfl : true = true)) (zc (gd_tf (rfl : true = true)) (zc (gd_tf (rfl : true = true)) (z1 (zc (rfl : true = true) (z2 (zc (gd_tf (rfl : true = true)) (zc (gd_tf (rfl : true = true)) (zc (gd_tf (rfl : true = true)) (z1 (zc (rfl : true = true) (z2 (zc (gd_tf (rfl : true = true)) (zc (gd_tf (rfl : true = true)) (zc (gd_tf (rfl : true = true)) (zc (gd_tf (rfl : true = true)) (z1 (zc (rfl : true = true) (z2 (zc (gd_tf (rfl : true = true)) (zc (gd_tf (rfl : true = true)) (zc (gd_tf (rfl : true = true)) (z1 (zc (rfl : true = true) zt)))))))))))))))))))))))))))))))))))))))))))))))) (fun s hs => Exists.intro true (And.intro h hs))
  replace h := ite_f b42 h
  rcases Bool.eq_false_or_eq_true (!(r_17.2)) with b43 | b43
  replace h := ite_t b43 h
  exact T_regJ [zn, zn, zn, zn, (zd (.str r_7.1)), zn, (zd (B false)), zn, zn, zn, (zd (B false)), zn, zn, zn, (zd (B false)), zn, zg, (zd (B true)), zn, zg, zg, zg, (zd (B true)), zn, zg, zg, zg, (zd (B true)), zn, zg, zg, zg, zg, (zd (B true)), zn, zg, zg, zg, (zd (B true))] [] [75] [8, 6] [0, 1, 2] _ _ (by kernel_rfl) (z6 (zc (gd_ff b40) (z1 (zc (gd_ff b40) (zc (rfl : r_7.1.map elB = r_7.1.map elB) (zc (gd_ff b40) (z2 (zc b40 (z2 (zc (gd_ff b41) (z1 (zc (gd_ff b41) (z2 (zc b41 (z2 (zc (gd_ff b42) (z1 (zc (gd_ff b42) (z2 (zc b42 (z2 (zc (gd_tf b43) (z1 (zc b43 (z2 (zc (gd_tf (rfl : true = true)) (zc (gd_tf (rfl : true = true)) (zc (gd_tf (rfl : true = true)) (z1 (zc (rfl : true = true) (z2 (zc (gd_tf (rfl : true = true)) (zc (gd_tf (rfl : true = true)) (zc (gd_tf (rfl : true = true)) (z1 (zc (rfl : true = true) (z2 (zc (gd_tf (rfl : true = true)) (zc (gd_tf (rfl : true = true)) (zc (gd_tf (rfl : true = true)) (zc (gd_tf (rfl : true = true)) (z1 (zc (rfl : true = true) (z2 (zc (gd_tf (rfl : true = true)) (zc (gd_tf (rfl : true = true)) (zc (gd_tf (rfl : true = true)) (z1 (zc (rfl : true = true) zt))))))))))))))))))))))))))))))))))))))))))))))))) (fun s hs => Exists.intro true (And.intro h hs))
  replace h := ite_f b43 h
  rcases Bool.eq_false_or_eq_true (r_19.2) with b44 | b44
  replace h := ite_t b44 h
  exact T_regJ [zn, zn, zn, zn, (zd (.str r_7.1)), zn, (zd (B false)), zn, zn, zn, (zd (B false)), zn, zn, zn, (zd (B false)), zn, zn, (zd (B false)), zn, zg, zg, zg, (zd (B true)), zn, zg, zg, zg, (zd (B true)), zn, zg, zg, zg, zg, (zd (B true)), zn, zg, zg, zg, (zd (B true))] [] [75] [8, 6] [0, 1, 2] _ _ (by kernel_rfl) (z6 (zc (gd_ff b40) (z1 (zc (gd_ff b40) (zc (rfl : r_7.1.map elB = r_7.1.map elB) (zc (gd_ff b40) (z2 (zc b40 (z2 (zc (gd_ff b41) (z1 (zc (gd_ff b41) (z2 (zc b41 (z2 (zc (gd_ff b42) (z1 (zc (gd_ff b42) (z2 (zc b42 (z2 (zc (gd_ff b43) (z2 (zc b43 (z2 (zc (gd_tf b44) (zc (gd_tf b44) (zc (gd_tf b44) (z1 (zc b44 (z2 (zc (gd_tf (rfl : true = true)) (zc (gd_tf (rfl : true = true)) (zc (gd_tf (rfl : true = true)) (z1 (zc (rfl : true = true) (z2 (zc (gd_tf (rfl : true = true)) (zc (gd_tf (rfl : true = true)) (zc (gd_tf (rfl : true = true)) (zc (gd_tf (rfl : true = true)) (z1 (zc (rfl : true = true) (z2 (zc (gd_tf (rfl : true = true)) (zc (gd_tf (rfl : true = true)) (zc (gd_tf (rfl : true = true)) (z1 (zc (rfl : true = true) zt))))))))))))))))))))))))))))))))))))))))))))))))) (fun s hs => Exists.intro true (And.intro h hs))
  replace h := ite_f b44 h
  rcases Bool.eq_false_or_eq_true (r_17.1.k != 1) with b45 | b45
  replace h := ite_t b45 h
  exact T_regJ [zn, zn, zn, zn, (zd (.str r_7.1)), zn, (zd (B false)), zn, zn, zn, (zd (B false)), zn, zn, zn, (zd (B false)), zn, zn, (zd (B false)), zn, zn, zn, zn, (zd (B false)), zn, zg, zg, zg, (zd (B true)), zn, zg, zg, zg, zg, (zd (B true)), zn, zg, zg, zg, (zd (B true))] [] [75] [8, 6] [0, 1, 2] _ _ (by kernel_rfl) (z6 (zc (gd_ff b40) (z1 (zc (gd_ff b40) (zc (rfl : r_7.1.map elB = r_7.1.map elB) (zc (gd_ff b40) (z2 (zc b40 (z2 (zc (gd_ff b41) (z1 (zc (gd_ff b41) (z2 (zc b41 (z2 (zc (gd_ff b42) (z1 (zc (gd_ff b42) (z2 (zc b42 (z2 (zc (gd_ff b43) (z2 (zc b43 (z2 (zc (gd_ff b44) (z1 (zc (gd_ff b44) (z1 (zc (gd_ff b44) (z2 (zc b44 (z2 (zc (gd_tf b45) (zc (gd_tf b45) (zc (gd_tf b45) (z1 (zc b45 (z2 (zc (gd_tf (rfl : true = true)) (zc (gd_tf (rfl : true = true)) (zc (gd_tf (rfl : true = true)) (zc (gd_tf (rfl : true = true)) (z1 (zc (rfl : true = true) (z2 (zc (gd_tf (rfl : true = true)) (zc (gd_tf (rfl : true = true)) (zc (gd_tf (rfl : true = true)) (z1 (zc (rfl : true = true) zt))))))))))))))))))))))))))))))))))))))))))))))))))) (fun s hs => Exists.intro true (And.intro h hs))
  replace h := ite_f b45 h
  rcases Bool.eq_false_or_eq_true (r_17.1.n != 1) with b46 | b46
  replace h := ite_t b46 h
  exact T_regJ [zn, zn, zn, zn, (zd (.str r_7.1)), zn, (zd (B false)), zn, zn, zn, (zd (B false)), zn, zn, zn, (zd (B false)), zn, zn, (zd (B false)), zn, zn, zn, zn, (zd (B false)), zn, zn, zn, zn, (zd (B false)), zn, zg, zg, zg, zg, (zd (B true)), zn, zg, zg, zg, (zd (B true))] [] [75] [8, 6] [0, 1, 2] _ _ (by kernel_rfl) (z6 (zc (gd_ff b40) (z1 (zc (gd_ff b40) (zc (rfl : r_7.1.map elB = r_7.1.map elB) (zc (gd_ff b40) (z2 (zc b40 (z2 (zc (gd_ff b41) (z1 (zc (gd_ff b41) (z2 (zc b41 (z2 (zc (gd_ff b42) (z1 (zc (gd_ff b42) (z2 (zc b42 (z2 (zc (gd_ff b43) (z2 (zc b43 (z2 (zc (gd_ff b44) (z1 (zc (gd_ff b44) (z1 (zc (gd_ff b44) (z2 (zc b44 (z2 (zc (gd_ff b45) (z1 (zc (gd_ff b45) (z1 (zc (gd_ff b45) (z2 (zc b45 (z2 (zc (gd_tf b46) (zc (gd_tf b46) (zc (gd_tf b46) (zc (gd_tf b46) (z1 (zc b46 (z2 (zc (gd_tf (rfl : true = true)) (zc (gd_tf (rfl : true = true)) (zc (gd_tf (rfl : true = true)) (z1 (zc (rfl : true = true) zt))))))))))))))))))))))))))))))))))))))))))))))))))))) (fun s hs => Exists.intro true (And.intro h hs))
  replace h := ite_f b46 h
  obtain ⟨r_47, e48, h⟩ := bd_inv h
  rcases Bool.eq_false_or_eq_true (!(r_47)) with b49 | b49
  replace h := ite_t b49 h
  exact T_regJ (hl 39 [(4, (zd (.str r_7.1))), (6, (zd (B false))), (10, (zd (B false))), (14, (zd (B false))), (17, (zd (B false))), (22, (zd (B false))), (27, (zd (B false))), (31, (zd (B (r_47)))), (33, (zd (B false))), (35, zg), (36, zg), (37, zg), (38, (zd (B true)))]) [] [75] [8, 6] [0, 1, 2] _ _ (by kernel_rfl) (z6 (zc (gd_ff b40) (z1 (zc (gd_ff b40) (zc (rfl : r_7.1.map elB = r_7.1.map elB) (zc (gd_ff b40) (z2 (zc b40 (z2 (zc (gd_ff b41) (z1 (zc (gd_ff b41) (z2 (zc b41 (z2 (zc (gd_ff b42) (z1 (zc (gd_ff b42) (z2 (zc b42 (z2 (zc (gd_ff b43) (z2 (zc b43 (z2 (zc (gd_ff b44) (z1 (zc (gd_ff b44) (z1 (zc (gd_ff b44) (z2 (zc b44 (z2 (zc (gd_ff b45) (z1 (zc (gd_ff b45) (z1 (zc (gd_ff b45) (z2 (zc b45 (z2 (zc (gd_ff b46) (z1 (zc (gd_ff b46) (z1 (zc (gd_ff b46) (zc (g_codec_Same_ret e48) (zc (gd_ff b46) (z2 (zc b46 (z2 (zc (gd_tf b49) (zc (gd_tf b49) (zc (gd_tf b49) (z1 (zc b49 zt)))))))))))))))))))))))))))))))))))))))))))))))))))))))) (fun s hs => Exists.intro true (And.intro h hs))
  replace h := ite_f b49 h
  obtain ⟨r_50, e51, h⟩ := bd_inv h
  exact T_regJ (hl 39 [(4, (zd (.str r_7.1))), (6, (zd (B false))), (10, (zd (B false))), (14, (zd (B false))), (17, (zd (B false))), (22, (zd (B false))), (27, (zd (B false))), (31, (zd (B (r_47)))), (33, (zd (B false))), (37, (zd (B (r_50)))), (38, (zd (B false)))]) [] [75] [8, 6] [0, 1, 2] _ _ (by kernel_rfl) (z6 (zc (gd_ff b40) (z1 (zc (gd_ff b40) (zc (rfl : r_7.1.map elB = r_7.1.map elB) (zc (gd_ff b40) (z2 (zc b40 (z2 (zc (gd_ff b41) (z1 (zc (gd_ff b41) (z2 (zc b41 (z2 (zc (gd_ff b42) (z1 (zc (gd_ff b42) (z2 (zc b42 (z2 (zc (gd_ff b43) (z2 (zc b43 (z2 (zc (gd_ff b44) (z1 (zc (gd_ff b44) (z1 (zc (gd_ff b44) (z2 (zc b44 (z2 (zc (gd_ff b45) (z1 (zc (gd_ff b45) (z1 (zc (gd_ff b45) (z2 (zc b45 (z2 (zc (gd_ff b46) (z1 (zc (gd_ff b46) (z1 (zc (gd_ff b46) (zc (g_codec_Same_ret e48) (zc (gd_ff b46) (z2 (zc b46 (z2 (zc (gd_ff b49) (z1 (zc (gd_ff b49) (z1 (zc (gd_ff b49) (zc (g_codec_Same_ret e51) (z1 (zc b49 zt))))))))))))))))))))))))))))))))))))))))))))))))))))))))))) (fun s hs => Exists.intro (r_50) (And.intro h hs))
  obtain ⟨rfl, rfl, hlk⟩ := CoR_pan hR
  replace h := hz16 rfl
  obtain rfl := some_inv h
  exact (show _ ∧ _ from ⟨rfl, ⟨_, rfl, lk3 ((after_lk (by kernel_rfl) rfl).trans (by rw [hlk 0 (by decide)]; kernel_rfl)) ((after_lk (by kernel_rfl) rfl).trans (by rw [hlk 1 (by decide)]; kernel_rfl)) ((after_lk (by kernel_rfl) rfl).trans (by rw [hlk 2 (by decide)]; kernel_rfl))⟩⟩)
  obtain ⟨rfl, rfl, hlk⟩ := CoR_pan hR
  replace h := hz11 rfl
  obtain rfl := some_inv h
  exact (show _ ∧ _ from ⟨rfl, ⟨_, rfl, lk3 ((after_lk (by kernel_rfl) rfl).trans (by rw [hlk 0 (by decide)]; kernel_rfl)) ((after_lk (by kernel_rfl) rfl).trans (by rw [hlk 1 (by decide)]; kernel_rfl)) ((after_lk (by kernel_rfl) rfl).trans (by rw [hlk 2 (by decide)]; kernel_rfl))⟩⟩)

theorem g_law02_CodecDecodeSpec_ret {b_1 : List UInt8} {r : (Bool) ⊕ Unit} (h : g_law02_CodecDecodeSpec b_1 = some r) : CT Tryd.prog 4 3 [(dt (.sl 1 (b_1.map elB)))] ghosts (CoR 3 ghosts (fun x => ((db (x)), ghosts)) (.iface 29 (.int .i64 20)) r) := by
  refine CT.of_T Tryd.func4 (by kernel_rfl) rfl ?_
  refine T_turn [] [0] [] (mk 30 [(0, (dt (.sl 1 (b_1.map elB))))] ghosts) (by kernel_rfl) ?_
  refine T_reg [] [0] [] (mk 30 [(0, (dt (.sl 1 (b_1.map elB))))] ghosts) _ (by kernel_rfl) (z2 zt) ?_
  refine T_seq ?_
  refine T_seq (T_parts ?_)
  obtain ⟨y3, e4, hk5, hz6⟩ := bdP_inv h
  refine TL_ct 10 [0, 1, 2] 100003 _ _ [] (g_law02_sane_ret e4) rfl rfl (by kernel_rfl) (by kernel_rfl) (by kernel_rfl) (by kernel_rfl) (fun l bx' hR => ?_) (fun d bx' hR => ?_)
  obtain ⟨r_2, rfl, rfl, rfl⟩ := CoR_ret hR
  replace h := hk5 _ rfl
  refine TL_turn [] [0, 7] [] (mk 30 [(0, (dt (.sl 1 (b_1.map elB)))), (7, (db (r_2)))] ghosts) (by kernel_rfl) ?_
  refine TL_part 1 [] (mk 30 [(0, (dt (.sl 1 (b_1.map elB)))), (7, (db (r_2))), (8, (db (!(r_2))))] ghosts) _ (by kernel_rfl) (z2 zt) rfl ?_
  refine TL_nilQ ?_
  refine T_turn [] [0, 8] [] (mk 30 [(0, (dt (.sl 1 (b_1.map elB)))), (8, (db (!(r_2))))] ghosts) (by kernel_rfl) ?_
  refine T_cond (!(r_2)) (by kernel_rfl) (fun b7 => ?_) (fun b7 => ?_)
  replace h := ite_t b7 h
  refine T_reg [] [2] [] (mk 30 [(2, (db false))] ghosts) _ (by kernel_rfl) (z2 zt) ?_
  refine T_arr [] [2] [] [0, 1, 2] (mk 30 [(2, (db false))] ghosts) (by kernel_rfl) ?_
  refine T_ret ?_
  obtain rfl := some_inv h
  exact ⟨[(db false)], by kernel_rfl, rfl⟩
  replace h := ite_f b7 h
  refine T_skip ?_
  refine T_seq ?_
  refine T_reg [zn, (zd (I ((b_1.length : Nat) : Int)))] [0, 11] [] (mk 30 [(0, (dt (.sl 1 (b_1.map elB)))), (11, (db (decide (((b_1.length : Nat) : Int) > 2000))))] ghosts) _ (by kernel_rfl) (z3 (zc (len_s elB b_1) (z2 zt))) ?_
  refine T_cond (decide (((b_1.length : Nat) : Int) > 2000)) (by kernel_rfl) (fun b8 => ?_) (fun b8 => ?_)
  replace h := ite_t b8 h
  refine T_reg [] [2] [] (mk 30 [(2, (db true))] ghosts) _ (by kernel_rfl) (z2 zt) ?_
  refine T_arr [] [2] [] [0, 1, 2] (mk 30 [(2, (db true))] ghosts) (by kernel_rfl) ?_
  refine T_ret ?_
  obtain rfl := some_inv h
  exact ⟨[(db true)], by kernel_rfl, rfl⟩
  replace h := ite_f b8 h
  refine T_skip ?_
  refine T_seq (T_parts ?_)
  refine TL_part 1 [] (mk 30 [(0, (dt (.sl 1 (b_1.map elB)))), (11, (db (decide (((b_1.length : Nat) : Int) > 2000)))), (13, (dt (.sl 1 (b_1.map elB))))] ghosts) _ (by kernel_rfl) (z2 zt) rfl ?_
  obtain ⟨y10, e11, hk12, hz13⟩ := bdP_inv h
  refine TL_ct 16 [0, 1, 2] 100003 _ _ [] (g_codec_Decode_ret e11) rfl rfl (by kernel_rfl) (by kernel_rfl) (by kernel_rfl) (by kernel_rfl) (fun l bx' hR => ?_) (fun d bx' hR => ?_)
  obtain ⟨r_9, rfl, rfl, rfl⟩ := CoR_ret hR
  replace h := hk12 _ rfl
  refine TL_turn [] [0, 14] [] (mk 30 [(0, (dt (.sl 1 (b_1.map elB)))), (14, (.tup [(true, (qVal r_9.1)), (false, [(.dat (I r_9.2))])]))] ghosts) (by kernel_rfl) ?_
  refine TL_part 6 [] (mk 30 [(0, (dt (.sl 1 (b_1.map elB)))), (3, (rf 6 0)), (4, (di r_9.2)), (12, (.tup [(true, (qVal r_9.1)), (false, [(.dat (I r_9.2))])])), (14, (.tup [(true, (qVal r_9.1)), (false, [(.dat (I r_9.2))])])), (15, (.agg (qVal r_9.1))), (16, (di r_9.2))] [(6, (.var (qVal r_9.1))), (0, gB0), (1, gB1), (2, gB2)]) _ (by kernel_rfl) (z8 (z4 zt)) rfl ?_
  refine TL_nilQ ?_
  refine T_turn [] [0, 3, 4] [] (mk 30 [(0, (dt (.sl 1 (b_1.map elB)))), (3, (rf 6 0)), (4, (di r_9.2))] [(6, (.var (qVal r_9.1))), (0, gB0), (1, gB1), (2, gB2)]) (by kernel_rfl) ?_
  refine T_seq (T_parts ?_)
  refine TL_part 1 [] (mk 30 [(0, (dt (.sl 1 (b_1.map elB)))), (3, (rf 6 0)), (4, (di r_9.2)), (18, (dt (.sl 1 (b_1.map elB))))] [(6, (.var (qVal r_9.1))), (0, gB0), (1, gB1), (2, gB2)]) _ (by kernel_rfl) (z2 zt) rfl ?_
  obtain ⟨y15, e16, hk17, hz18⟩ := bdP_inv h
  refine TL_ct 17 [0, 1, 2] 100003 _ _ [] (g_ref02_Decode_ret e16) rfl rfl (by kernel_rfl) (by kernel_rfl) (by kernel_rfl) (by kernel_rfl) (fun l bx' hR => ?_) (fun d bx' hR => ?_)
  obtain ⟨r_14, rfl, rfl, rfl⟩ := CoR_ret hR
  replace h := hk17 _ rfl
  refine TL_turn [] [3, 4, 19] [] (mk 30 [(3, (rf 6 0)), (4, (di r_9.2)), (19, (.tup [(true, (qVal r_14.1)), (false, [(.dat (I r_14.2))])]))] [(6, (.var (qVal r_9.1))), (0, gB0), (1, gB1), (2, gB2)]) (by kernel_rfl) ?_
  refine TL_part 6 [] (mk 30 [(3, (rf 6 0)), (4, (di r_9.2)), (5, (rf 8 0)), (6, (di r_14.2)), (17, (.tup [(true, (qVal r_14.1)), (false, [(.dat (I r_14.2))])])), (19, (.tup [(true, (qVal r_14.1)), (false, [(.dat (I r_14.2))])])), (20, (.agg (qVal r_14.1))), (21, (di r_14.2))] [(8, (.var (qVal r_14.1))), (6, (.var (qVal r_9.1))), (0, gB0), (1, gB1), (2, gB2)]) _ (by kernel_rfl) (z8 (z4 zt)) rfl ?_
  refine TL_nilQ ?_
  refine T_turn [] [3, 4, 5, 6] [] (mk 30 [(3, (rf 6 0)), (4, (di r_9.2)), (5, (rf 8 0)), (6, (di r_14.2))] [(8, (.var (qVal r_14.1))), (6, (.var (qVal r_9.1))), (0, gB0), (1, gB1), (2, gB2)]) (by kernel_rfl) ?_
  obtain ⟨r_19, e20, h⟩ := bd_inv h
  rcases Bool.eq_false_or_eq_true (r_19) with b21 | b21
  replace h := ite_t b21 h
  refine T_reg (hl 8 [(2, (zd (B (r_19)))), (7, (zd (B true)))]) [2] [8, 6] (mk 30 [(2, (db (r_9.2 == r_14.2)))] ghosts) _ (by kernel_rfl) (z5 (zc (g_ref02_Same_ret e20) (z2 (zc (gd_tt b21) (z1 (zc (gd_tt b21) (z1 (zc (gd_tt b21) (z2 (zc b21 (z2 zt))))))))))) ?_
  refine T_arr [] [2] [] [0, 1, 2] (mk 30 [(2, (db (r_9.2 == r_14.2)))] ghosts) (by kernel_rfl) ?_
  refine T_ret ?_
  obtain rfl := some_inv h
  exact ⟨[(db (r_9.2 == r_14.2))], by kernel_rfl, rfl⟩
  replace h := ite_f b21 h
  refine T_reg [zn, zn, (zd (B (r_19))), zn, zg, zg, zg, (zd (B false))] [2] [8, 6] (mk 30 [(2, (db false))] ghosts) _ (by kernel_rfl) (z5 (zc (g_ref02_Same_ret e20) (z2 (zc (gd_ft b21) (zc (gd_ft b21) (zc (gd_ft b21) (z1 (zc b21 (z2 zt))))))))) ?_
  refine T_arr [] [2] [] [0, 1, 2] (mk 30 [(2, (db false))] ghosts) (by kernel_rfl) ?_
  refine T_ret ?_
  obtain rfl := some_inv h
  exact ⟨[(db false)], by kernel_rfl, rfl⟩
  obtain ⟨rfl, rfl, hlk⟩ := CoR_pan hR
  replace h := hz18 rfl
  obtain rfl := some_inv h
  exact (show _ ∧ _ from ⟨rfl, ⟨_, rfl, lk3 ((after_lk (by kernel_rfl) rfl).trans (by rw [hlk 0 (by decide)]; kernel_rfl)) ((after_lk (by kernel_rfl) rfl).trans (by rw [hlk 1 (by decide)]; kernel_rfl)) ((after_lk (by kernel_rfl) rfl).trans (by rw [hlk 2 (by decide)]; kernel_rfl))⟩⟩)
  obtain ⟨rfl, rfl, hlk⟩ := CoR_pan hR
  replace h := hz13 rfl
  obtain rfl := some_inv h
  exact (show _ ∧ _ from ⟨rfl, ⟨_, rfl, lk3 ((after_lk (by kernel_rfl) rfl).trans (by rw [hlk 0 (by decide)]; kernel_rfl)) ((after_lk (by kernel_rfl) rfl).trans (by rw [hlk 1 (by decide)]; kernel_rfl)) ((after_lk (by kernel_rfl) rfl).trans (by rw [hlk 2 (by decide)]; kernel_rfl))⟩⟩)
  obtain ⟨rfl, rfl, hlk⟩ := CoR_pan hR
  replace h := hz6 rfl
  obtain rfl := some_inv h
  exact (show _ ∧ _ from ⟨rfl, ⟨_, rfl, lk3 ((after_lk (by kernel_rfl) rfl).trans (by rw [hlk 0 (by decide)]; kernel_rfl)) ((after_lk (by kernel_rfl) rfl).trans (by rw [hlk 1 (by decide)]; kernel_rfl)) ((after_lk (by kernel_rfl) rfl).trans (by rw [hlk 2 (by decide)]; kernel_rfl))⟩⟩)

end Go.Proofs.YtimalbkjflfdoaaDoor

namespace Go.DL
open Go.RowKit Go.Maps
section
variable {P : Program} {w : World} {A : Nat → Prop} {M : BMap} {base : Nat} {Q : DX → DS → Prop} {s : DS}
end
end Go.DL

namespace Go.DL
open Go.RowKit
section
variable {P : Program} {w : World} {A : Nat → Prop} {M : BMap} {base : Nat} {Q : DX → DS → Prop} {s : DS}

end
end Go.DL

namespace Go.DL
def WP {α : Type} (o : Option α) (Q : α → Prop) : Prop := ∃ x, o = some x ∧ Q x
section
variable {α β ρ σ : Type} {Q : ρ → Prop}
theorem WP.eq {o : Option ρ} {r : ρ} (h : WP o fun x => x = r) : o = some r := by obtain ⟨x, h1, rfl⟩ := h; exact h1
theorem WP.mono {o : Option ρ} {Q' : ρ → Prop} (h : WP o Q') (hq : ∀ x, Q' x → Q x) : WP o Q := by obtain ⟨x, h1, h2⟩ := h; exact ⟨x, h1, hq x h2⟩
theorem WP.ret {x : ρ} (h : Q x) : WP (some x) Q := ⟨x, rfl, h⟩
theorem WP.iteD {p : Prop} [d : Decidable p] [i : Decidable (decide p = true)] {a b : Option ρ} (h1 : p → WP a Q) (h2 : ¬ p → WP b Q) : WP (@ite _ (decide p = true) i a b) Q := by
  by_cases h : p
  · rw [if_pos (decide_eq_true h)]; exact h1 h
  · rw [if_neg (by simp [h])]; exact h2 h
theorem WP.iteE [DecidableEq α] {x y : α} [i : Decidable ((x == y) = true)] {a b : Option ρ} (h1 : x = y → WP a Q) (h2 : ¬ x = y → WP b Q) : WP (@ite _ ((x == y) = true) i a b) Q := by
  by_cases h : x = y
  · rw [if_pos (beq_iff_eq.2 h)]; exact h1 h
  · rw [if_neg (by simp [h])]; exact h2 h
theorem WP.iteN [DecidableEq α] {x y : α} [i : Decidable ((x != y) = true)] {a b : Option ρ} (h1 : ¬ x = y → WP a Q) (h2 : x = y → WP b Q) : WP (@ite _ ((x != y) = true) i a b) Q := by
  by_cases h : x = y
  · rw [if_neg (by simp [h])]; exact h2 h
  · rw [if_pos (bne_iff_ne.2 h)]; exact h1 h
theorem WP.iteT [i : Decidable (true = true)] {a b : Option ρ} (h : WP a Q) : WP (@ite _ (true = true) i a b) Q := by rw [if_pos rfl]; exact h
theorem WP.iteF [i : Decidable (false = true)] {a b : Option ρ} (h : WP b Q) : WP (@ite _ (false = true) i a b) Q := by rw [if_neg (by simp)]; exact h
theorem WP.iteNb {c : Bool} [i : Decidable ((!c) = true)] {a b : Option ρ} (h : WP (if c = true then b else a) Q) : WP (@ite _ ((!c) = true) i a b) Q := by
  cases c
  · rw [if_pos (show (!false) = true from rfl)]; rwa [if_neg (by simp)] at h
  · rw [if_neg (show ¬ (!true) = true by simp)]; rwa [if_pos rfl] at h
theorem WP.iteB {c : Bool} [i : Decidable (c = true)] {a b : Option ρ} (h1 : c = true → WP a Q) (h2 : c = false → WP b Q) : WP (@ite _ (c = true) i a b) Q := by
  cases c
  · rw [if_neg (by simp)]; exact h2 rfl
  · rw [if_pos rfl]; exact h1 rfl
theorem WP.ckI {n : Int} {o : Option ρ} (hn : -9223372036854775808 ≤ n ∧ n ≤ 9223372036854775807) (h : WP o Q) : WP (Go.DL.ckI n o) Q := by rw [ckI_pos hn.1 hn.2]; exact h
theorem WP.ck {p : Prop} [Decidable p] {o : Option ρ} (hp : p) (h : WP o Q) : WP (Go.DL.ck p o) Q := by rw [ck_pos hp]; exact h
theorem WP.gn {l : List α} {n : Nat} {k : α → Option ρ} (hn : n < l.length) (h : ∀ x, l[n]? = some x → WP (k x) Q) : WP (Go.DL.gn l n k) Q := by
  have hx : l[n]? = some l[n] := List.getElem?_eq_getElem hn
  rw [gn_some hx]; exact h _ hx
theorem WP.gt {l : List α} {i : Int} {k : α → Option ρ} (hn : 0 ≤ i ∧ i < (l.length : Int)) (h : ∀ x, l[i.toNat]? = some x → WP (k x) Q) : WP (Go.DL.gt l i k) Q := by
  have hx : l[i.toNat]? = some (l[i.toNat]'(by omega)) := List.getElem?_eq_getElem (by omega)
  rw [gt_some hx hn.1]; exact h _ hx
theorem WP.bd {o : Option α} {k : α → Option ρ} {r : α} (ho : o = some r) (h : WP (k r) Q) : WP (Go.DL.bd o k) Q := by rw [ho]; exact h
theorem WP.bdW {o : Option α} {k : α → Option ρ} (h : WP o fun x => WP (k x) Q) : WP (Go.DL.bd o k) Q := by obtain ⟨x, h1, h2⟩ := h; rw [h1]; exact h2
theorem WP.up {o : Option ρ} {Q : σ ⊕ ρ → Prop} (h : WP o fun r => Q (.inr r)) : WP (Go.DL.up o) Q := by obtain ⟨x, h1, h2⟩ := h; exact ⟨.inr x, by rw [h1]; rfl, h2⟩
theorem WP.sb {l : List α} {lo hi : Option Int} {k : List α → Option ρ} (h0 : 0 ≤ lo.getD 0 ∧ lo.getD 0 ≤ hi.getD l.length ∧ hi.getD l.length ≤ (l.length : Int)) (h : WP (k (subList l lo hi)) Q) : WP (Go.DL.sb l lo hi k) Q := by
  unfold Go.DL.sb; rw [if_pos h0]; exact h
def Rnd (I : σ → Prop) (μ : σ → Nat) (n : Nat) (Q : ρ → Prop) : σ ⊕ ρ → Prop
  | .inl y => I y ∧ μ y < n
  | .inr r => Q r
theorem WP.loop {step : σ → Option (σ ⊕ ρ)} {x : σ} (I : σ → Prop) (μ : σ → Nat) (h : ∀ x, I x → WP (step x) (Rnd I μ (μ x) Q)) (h0 : I x) : WP (loopO step x) Q := by
  have key : ∀ n x, μ x = n → I x → WP (loopO step x) Q := by
    intro n
    induction n using Nat.strongRecOn with
    | _ n ih =>
      intro x hn hx
      obtain ⟨z, h1, h2⟩ := h x hx
      match z, h1, h2 with
      | .inr r, h1, h2 => exact ⟨r, loopO_inr h1, h2⟩
      | .inl y, h1, h2 => rw [loopO_inl h1]; have := h2.2; exact ih (μ y) (by omega) y rfl h2.1
  exact key _ x rfl h0
end
end Go.DL

namespace Go.Proofs.YtimalbkjflfdoaaDoor
open Go.DL
theorem incr_iff : ∀ (l : List (List UInt8)), incr l = true ↔ ∀ (i : Nat) (x y : List UInt8), l[i]? = some x → l[i + 1]? = some y → Op.bytesLess x y = true
  | [] => by simp [incr]
  | [a] => by
    simp only [incr, true_iff]
    intro i x y h1 h2
    simp at h2
  | a :: b :: r => by
    simp only [incr, Bool.and_eq_true, incr_iff (b :: r)]
    constructor
    · rintro ⟨h1, h2⟩ i x y hx hy
      cases i with
      | zero => simp at hx hy; subst hx; subst hy; exact h1
      | succ i => exact h2 i x y (by simpa using hx) (by simpa using hy)
    · intro h
      exact ⟨h 0 a b rfl rfl, fun i x y hx hy => h (i + 1) x y (by simpa using hx) (by simpa using hy)⟩
def emptyB (v : Val) : Bool := if v.k = 1 then v.s.isEmpty && v.l.isEmpty && v.ks.isEmpty else if v.k = 2 then v.n == 0 && v.l.isEmpty && v.ks.isEmpty else if v.k = 3 then v.n == 0 && v.s.isEmpty && v.ks.isEmpty else v.n == 0 && v.s.isEmpty && v.ks.length == v.l.length
theorem len0 {α : Type} (l : List α) : ((((l.length : Nat) : Int) == 0) = l.isEmpty) := by cases l <;> simp; omega
theorem empty_eq {v : Val} (h1 : 1 ≤ v.k) (h2 : v.k ≤ 4) : g_codec_empty v = some (emptyB v) := by
  unfold g_codec_empty emptyB
  have hl : (((v.ks.length : Nat) : Int) == ((v.l.length : Nat) : Int)) = (v.ks.length == v.l.length) := by
    rw [Bool.eq_iff_iff, beq_iff_eq, beq_iff_eq]; omega
  simp only [len0, hl, List.isEmpty_iff, beq_iff_eq]
  have hk : v.k = 1 ∨ v.k = 2 ∨ v.k = 3 ∨ v.k = 4 := by omega
  have e1 : ∀ (l : List UInt8), (l == ([] : List UInt8)) = l.isEmpty := fun l => by cases l <;> rfl
  rcases hk with hk | hk | hk | hk <;> simp only [hk] <;> simp (config := { decide := true }) only [if_true, if_false, ck_pos] <;>
    by_cases a1 : v.s = [] <;> by_cases a2 : v.l = [] <;> by_cases a3 : v.n = 0 <;> simp [a1, a2, a3, ck]
def fmd (v : Val) : Int × Bool := if wf v = true then (((dep v : Nat) : Int), true) else (0, false)
theorem fmd_t {v : Val} (h : wf v = true) : fmd v = (((dep v : Nat) : Int), true) := if_pos h
theorem fmd_f {v : Val} (h : ¬ wf v = true) : fmd v = (0, false) := if_neg h
theorem wf_out {v : Val} (h : v.k < 1 ∨ 4 < v.k) : wf v = false := by
  cases v with
  | mk k n s l ks =>
    simp only [Val.k] at h
    have h1 : ¬ k = 1 := by omega
    have h2 : ¬ k = 2 := by omega
    have h3 : ¬ k = 3 := by omega
    have h4 : ¬ k = 4 := by omega
    simp [wf, h1, h2, h3, h4]
theorem wf_in {v : Val} (h1 : 1 ≤ v.k) (h2 : v.k ≤ 4) : wf v = (emptyB v && (if v.k = 4 then incr v.ks else true) && (if v.k < 3 then true else wfL v.l)) := by
  cases v with
  | mk k n s l ks =>
    simp only [Val.k] at h1 h2 ⊢
    have hk : k = 1 ∨ k = 2 ∨ k = 3 ∨ k = 4 := by omega
    rcases hk with rfl | rfl | rfl | rfl <;> simp (config := { decide := true }) [wf, emptyB, Val.k, Val.n, Val.s, Val.l, Val.ks, Bool.and_assoc]
theorem wf_ks {v : Val} (h1 : 1 ≤ v.k) (h2 : v.k < 4) (he : emptyB v = true) : v.ks = [] := by
  cases v with
  | mk k n s l ks =>
    simp only [Val.k] at h1 h2
    have hk : k = 1 ∨ k = 2 ∨ k = 3 := by omega
    rcases hk with rfl | rfl | rfl <;> simp_all [emptyB, Val.k, Val.n, Val.s, Val.l, Val.ks]
theorem dep_list {v : Val} (h : 3 ≤ v.k) : dep v = depL v.l + 1 := by
  cases v with
  | mk k n s l ks =>
    simp only [Val.k] at h
    simp only [dep, Val.l]
    rw [if_neg (by omega)]
theorem dep_flat {v : Val} (h1 : 1 ≤ v.k) (h : v.k < 3) : dep v = 0 := by
  cases v with
  | mk k n s l ks =>
    simp only [Val.k] at h h1
    simp only [dep]
    rw [if_pos (by omega)]
theorem depL_take_succ {l : List Val} {i : Nat} {x : Val} (hx : l[i]? = some x) : depL (l.take (i + 1)) = max (depL (l.take i)) (dep x) := by
  rw [List.take_add_one, hx, depL_append]
  simp [depL]
theorem dep_hgt (v : Val) : dep v ≤ hgt v := by
  induction v using Val.ind with
  | h k n s l ks ih =>
    have : depL l ≤ hgtL l := depL_le.2 fun x hx => Nat.le_trans (ih x hx) (hgtL_le.1 (Nat.le_refl _) x hx)
    simp only [dep, hgt]
    split <;> omega
theorem formed_s {rc : Val → Option (Int × Bool)} {v : Val} (hrc : ∀ x ∈ v.l, rc x = some (fmd x)) (hd : ∀ x ∈ v.l, dep x ≤ 1000) (hl1 : v.l.length ≤ 140737488355328) (hl2 : v.ks.length ≤ 140737488355328) : WP (g_codec_formed_s rc v) fun r => r = fmd v := by
  unfold g_codec_formed_s
  by_cases h1 : v.k < 1
  · rw [if_pos (decide_eq_true h1)]
    exact WP.iteT (WP.ret (fmd_f (by rw [wf_out (.inl h1)]; simp)).symm)
  rw [if_neg (by simpa using h1)]
  by_cases h2 : v.k > 4
  · rw [if_pos (decide_eq_true h2)]
    exact WP.iteT (WP.ret (fmd_f (by rw [wf_out (.inr h2)]; simp)).symm)
  rw [if_neg (by simpa using h2)]
  have w0 := wf_in (v := v) (by omega) (by omega)
  refine WP.bd (empty_eq (by omega) (by omega)) ?_
  unfold g_codec_formed_s_j1
  refine WP.iteNb ?_
  refine WP.iteB (fun he => ?_) (fun he => WP.ret (fmd_f (by rw [w0, he]; simp)).symm)
  refine WP.loop (fun i => 1 ≤ i ∧ ∀ j x y, j + 1 < i → v.ks[j]? = some x → v.ks[j + 1]? = some y → Op.bytesLess x y = true) (fun i => v.ks.length - i) ?_ ⟨Nat.le_refl _, fun j x y h => by omega⟩
  intro i ⟨hi1, hi2⟩
  simp only [g_codec_formed_s_l5]
  refine WP.iteD (fun hi => ?_) (fun hi => ?_)
  · have hi' : i < v.ks.length := by omega
    refine WP.ckI (by omega) (WP.gt (by omega) fun x hx => WP.gn hi' fun y hy => ?_)
    have hx' : v.ks[i - 1]? = some x := by rw [← hx]; congr 1; omega
    have hy' : v.ks[i - 1 + 1]? = some y := by rw [← hy]; congr 1; omega
    refine WP.iteNb (WP.iteB (fun hl => WP.ckI (by omega) (WP.ret ⟨⟨by omega, fun j a b hj ha hb => ?_⟩, by show v.ks.length - (i + 1) < v.ks.length - i; omega⟩)) (fun hl => WP.up (WP.ret ?_)))
    · by_cases hji : j = i - 1
      · subst hji; rw [hx'] at ha; rw [hy'] at hb; cases ha; cases hb; exact hl
      · exact hi2 j a b (by omega) ha hb
    · refine (fmd_f ?_).symm
      have hk4 : v.k = 4 := by
        rcases Int.lt_or_le v.k 4 with h | h
        · rw [wf_ks (by omega) h he] at hi'; simp at hi'
        · omega
      rw [w0, hk4]
      have : ¬ incr v.ks = true := fun hn => by rw [(incr_iff _).1 hn _ x y hx' hy'] at hl; cases hl
      simp [this]
  · have hinc : incr v.ks = true := (incr_iff _).2 fun j x y hx hy => by
      have := (List.getElem?_eq_some_iff.1 hy).1
      exact hi2 j x y (by omega) hx hy
    refine WP.up ?_
    show WP (g_codec_formed_s_j2 v rc) fun r => r = fmd v
    unfold g_codec_formed_s_j2
    refine WP.iteD (fun h3 => WP.ret ?_) (fun h3 => ?_)
    · have : wf v = true := by rw [w0, he, hinc]; simp [h3]
      rw [fmd_t this, dep_flat (by omega) h3]; rfl
    · refine WP.loop (fun (p : Int × Nat) => p.2 ≤ v.l.length ∧ p.1 = ((depL (v.l.take p.2) : Nat) : Int) ∧ (∀ x ∈ v.l.take p.2, wf x = true)) (fun p => v.l.length - p.2) ?_ ⟨by simp, by simp [depL], by simp⟩
      rintro ⟨d, i⟩ ⟨g1, g2, g3⟩
      simp only at g1 g2 g3
      simp only [g_codec_formed_s_l4]
      refine WP.iteD (fun hi => ?_) (fun hi => ?_)
      · have hi' : i < v.l.length := by omega
        refine WP.gn hi' fun x hx => WP.bd (hrc x (List.mem_of_getElem? hx)) ?_
        refine WP.iteNb ?_
        by_cases hw : wf x = true
        · rw [fmd_t hw]
          refine WP.iteT (WP.ckI (by omega) (WP.ret ⟨⟨by simp only; omega, ?_, ?_⟩, by simp only; omega⟩))
          · simp only
            rw [depL_take_succ hx, g2]
            split <;> omega
          · simp only
            intro y hy
            rw [List.take_add_one, hx] at hy
            rcases List.mem_append.1 hy with hy | hy
            · exact g3 y hy
            · simp at hy; subst hy; exact hw
        · rw [fmd_f hw]
          refine WP.iteF (WP.up (WP.ret (fmd_f ?_).symm))
          rw [w0]
          have : ¬ wfL v.l = true := fun h => hw (wfL_iff.1 h x (List.mem_of_getElem? hx))
          simp [h3, this]
      · have e : i = v.l.length := by omega
        rw [e, List.take_length] at g2 g3
        refine WP.up ?_
        show WP (g_codec_formed_s_j3 d) fun r => r = fmd v
        have hdd : depL v.l ≤ 1000 := depL_le.2 hd
        refine WP.ckI (by omega) (WP.ret ?_)
        have hwl : wfL v.l = true := wfL_iff.2 g3
        have : wf v = true := by
          rw [w0, he, hinc, hwl]; simp
        rw [fmd_t this, dep_list (by omega), g2]
        simp
theorem formed_eq : ∀ (fu : Nat) (v : Val), hgt v ≤ fu → fu ≤ 1000 → rng v → g_codec_formed fu v = some (fmd v)
  | 0, .mk k n s l ks, h, _, _ => by simp [hgt] at h
  | fu + 1, .mk k n s l ks, h, hf, hr => by
    simp only [hgt, Nat.add_le_add_iff_right, hgtL_le] at h
    simp only [rng, rngL_iff] at hr
    exact WP.eq (formed_s (v := .mk k n s l ks) (fun x hx => formed_eq fu x (h x hx) (by omega) (hr.2.2.2.2.2.2 x hx)) (fun x hx => Nat.le_trans (dep_hgt x) (by have := h x hx; omega)) hr.2.2.2.1 hr.2.2.2.2.1)
def chk (v : Val) : Int := if wf v = true then (if 16 < dep v then 2 else 0) else 1
theorem check_eq {v : Val} (h : hgt v ≤ 60) (hr : rng v) : g_codec_Check v = some (chk v) := by
  refine WP.eq ?_
  unfold g_codec_Check
  refine WP.bd (formed_eq 60 v h (by omega) hr) ?_
  unfold chk fmd
  by_cases hw : wf v = true
  · rw [if_pos hw, if_pos hw]
    refine WP.iteNb (WP.iteT ?_)
    refine WP.iteD (fun h => WP.ret ?_) (fun h => WP.ret ?_)
    · simp only at h; rw [if_pos (by omega)]
    · simp only at h; rw [if_neg (by omega)]
  · rw [if_neg hw, if_neg hw]
    exact WP.iteNb (WP.iteF (WP.ret rfl))
end Go.Proofs.YtimalbkjflfdoaaDoor

set_option maxRecDepth 100000
namespace Go.Proofs.YtimalbkjflfdoaaDoor
open Go.DL
theorem rincr_eq {l : List (List UInt8)} (hl : l.length ≤ 140737488355328) : g_ref02_increasing l = some (incr l) := by
  refine WP.eq ?_
  unfold g_ref02_increasing
  refine WP.loop (fun i => 1 ≤ i ∧ ∀ j x y, j + 1 < i → l[j]? = some x → l[j + 1]? = some y → Op.bytesLess x y = true) (fun i => l.length - i) ?_ ⟨Nat.le_refl _, fun j x y h => by omega⟩
  intro i ⟨hi1, hi2⟩
  simp only [g_ref02_increasing_l2]
  refine WP.iteD (fun hi => ?_) (fun hi => ?_)
  · have hi' : i < l.length := by omega
    refine WP.ckI (by omega) (WP.gt (by omega) fun x hx => WP.gn hi' fun y hy => ?_)
    have hx' : l[i - 1]? = some x := by rw [← hx]; congr 1; omega
    have hy' : l[i - 1 + 1]? = some y := by rw [← hy]; congr 1; omega
    refine WP.iteNb (WP.iteB (fun hh => WP.ckI (by omega) (WP.ret ⟨⟨by omega, fun j a b hj ha hb => ?_⟩, by show l.length - (i + 1) < l.length - i; omega⟩)) (fun hh => WP.up (WP.ret ?_)))
    · by_cases hji : j = i - 1
      · subst hji; rw [hx'] at ha; rw [hy'] at hb; cases ha; cases hb; exact hh
      · exact hi2 j a b (by omega) ha hb
    · have : ¬ incr l = true := fun hn => by rw [(incr_iff _).1 hn _ x y hx' hy'] at hh; cases hh
      show false = incr l
      simpa using this
  · refine WP.up (WP.ret ?_)
    exact ((incr_iff _).2 fun j x y hx hy => by
      have := (List.getElem?_eq_some_iff.1 hy).1
      exact hi2 j x y (by omega) hx hy).symm
theorem rFormed_loop {rc : Val → Option Bool} {v : Val} (hrc : ∀ x ∈ v.l, rc x = some (wf x)) (hl : v.l.length ≤ 140737488355328) : WP (g_ref02_Formed_s_j1 v rc) fun r => r = (wfL v.l && v.n == 0 && v.s.isEmpty) := by
  unfold g_ref02_Formed_s_j1
  refine WP.loop (fun i => i ≤ v.l.length ∧ ∀ x ∈ v.l.take i, wf x = true) (fun i => v.l.length - i) ?_ ⟨by omega, by simp⟩
  rintro i ⟨g1, g3⟩
  simp only [g_ref02_Formed_s_l3]
  refine WP.iteD (fun hi => ?_) (fun hi => ?_)
  · have hi' : i < v.l.length := by omega
    refine WP.gn hi' fun x hx => WP.bd (hrc x (List.mem_of_getElem? hx)) (WP.iteNb ?_)
    refine WP.iteB (fun hw => WP.ckI (by omega) (WP.ret ⟨⟨by omega, ?_⟩, by show v.l.length - (i + 1) < v.l.length - i; omega⟩)) (fun hw => WP.up (WP.ret ?_))
    · intro y hy
      rw [List.take_add_one, hx] at hy
      rcases List.mem_append.1 hy with hy | hy
      · exact g3 y hy
      · simp at hy; subst hy; exact hw
    · have : ¬ wfL v.l = true := fun h => by rw [wfL_iff.1 h x (List.mem_of_getElem? hx)] at hw; cases hw
      show false = _
      simp [this]
  · have e : i = v.l.length := by omega
    rw [e, List.take_length] at g3
    refine WP.up ?_
    show WP (g_ref02_Formed_s_j2 v) fun r => r = (wfL v.l && v.n == 0 && v.s.isEmpty)
    unfold g_ref02_Formed_s_j2
    have e1 : ∀ (l : List UInt8), (l == ([] : List UInt8)) = l.isEmpty := fun l => by cases l <;> rfl
    rw [wfL_iff.2 g3]
    refine WP.iteE (fun h => WP.ret ?_) (fun h => WP.ret ?_)
    · simp [h, e1]
    · simp [h]
theorem rFormed_s {rc : Val → Option Bool} {v : Val} (hrc : ∀ x ∈ v.l, rc x = some (wf x)) (hl1 : v.l.length ≤ 140737488355328) (hl2 : v.ks.length ≤ 140737488355328) : WP (g_ref02_Formed_s rc v) fun r => r = wf v := by
  have hloop := rFormed_loop hrc hl1
  unfold g_ref02_Formed_s
  have e1 : ∀ (l : List UInt8), (l == ([] : List UInt8)) = l.isEmpty := fun l => by cases l <;> rfl
  cases v with
  | mk k n s l ks =>
    simp only [Val.k, Val.n, Val.s, Val.l, Val.ks] at *
    refine WP.iteE (fun h => ?_) (fun h1 => WP.iteE (fun h => ?_) (fun h2 => WP.iteE (fun h => ?_) (fun h3 => WP.iteE (fun h => ?_) (fun h4 => ?_))))
    · subst h
      simp only [len0, e1]
      refine WP.iteB (fun a => WP.iteB (fun b => WP.ret ?_) (fun b => WP.ret ?_)) (fun a => WP.ret ?_) <;> simp (config := { decide := true }) [wf, a] <;> simp_all
    · subst h
      simp only [len0]
      refine WP.iteE (fun a => WP.iteB (fun b => WP.ret ?_) (fun b => WP.ret ?_)) (fun a => WP.ret ?_) <;> simp (config := { decide := true }) [wf, a] <;> simp_all
    · subst h
      refine WP.iteD (fun a => WP.ret ?_) (fun a => hloop.mono fun r hr => ?_)
      · have : ks ≠ [] := fun e => by subst e; simp at a
        simp (config := { decide := true }) [wf, this]
      · have : ks = [] := List.eq_nil_of_length_eq_zero (by omega)
        subst this
        rw [hr]
        simp (config := { decide := true }) [wf]
        rw [Bool.eq_iff_iff]; simp only [Bool.and_eq_true]; constructor <;> intro hh <;> simp_all
    · subst h
      unfold g_ref02_Formed_s_j4
      refine WP.iteN (fun a => WP.iteT (WP.ret ?_)) (fun a => WP.bd (rincr_eq hl2) (WP.iteNb (WP.iteB (fun b => hloop.mono fun r hr => ?_) (fun b => WP.ret ?_))))
      · have : ¬ ks.length = l.length := fun e => a (by rw [e])
        simp (config := { decide := true }) [wf, this]
      · have a' : ks.length = l.length := by omega
        rw [hr]
        simp (config := { decide := true }) [wf, a', b]
        rw [Bool.eq_iff_iff]; simp only [Bool.and_eq_true]; constructor <;> intro hh <;> simp_all
      · simp (config := { decide := true }) [wf, b]
    · refine WP.ret ?_
      simp [wf, h1, h2, h3, h4]
theorem rFormed_eq : ∀ (fu : Nat) (v : Val), hgt v ≤ fu → rng v → g_ref02_Formed fu v = some (wf v)
  | 0, .mk k n s l ks, h, _ => by simp [hgt] at h
  | fu + 1, .mk k n s l ks, h, hr => by
    simp only [hgt, Nat.add_le_add_iff_right, hgtL_le] at h
    simp only [rng, rngL_iff] at hr
    exact WP.eq (rFormed_s (v := .mk k n s l ks) (fun x hx => rFormed_eq fu x (h x hx) (hr.2.2.2.2.2.2 x hx)) hr.2.2.2.1 hr.2.2.2.2.1)
theorem rDepth_s {rc : Val → Option Int} {v : Val} (hrc : ∀ x ∈ v.l, rc x = some ((dep x : Nat) : Int)) (hd : ∀ x ∈ v.l, dep x ≤ 1000) (hl : v.l.length ≤ 140737488355328) : WP (g_ref02_Depth_s rc v) fun r => r = ((dep v : Nat) : Int) := by
  have hflat : ∀ b : Bool, (b = true ↔ v.k = 1 ∨ v.k = 2) → WP (g_ref02_Depth_s_j1 v rc b) fun r => r = ((dep v : Nat) : Int) := by
    intro b hb
    unfold g_ref02_Depth_s_j1
    refine WP.iteB (fun h => WP.ret ?_) (fun h => ?_)
    · cases v with
      | mk k n s l ks => simp only [Val.k] at hb; simp [dep, hb.1 h]
    · have hn : ¬ (v.k = 1 ∨ v.k = 2) := fun hh => by rw [hb.2 hh] at h; cases h
      have hdep : dep v = depL v.l + 1 := by
        cases v with
        | mk k n s l ks => simp only [Val.k] at hn; simp [dep, hn, Val.l]
      refine WP.loop (fun (p : Int × Nat) => p.2 ≤ v.l.length ∧ p.1 = ((depL (v.l.take p.2) : Nat) : Int)) (fun p => v.l.length - p.2) ?_ ⟨by simp, by simp [depL]⟩
      rintro ⟨d, i⟩ ⟨g1, g2⟩
      simp only at g1 g2
      simp only [g_ref02_Depth_s_l3]
      refine WP.iteD (fun hi => ?_) (fun hi => ?_)
      · have hi' : i < v.l.length := by omega
        refine WP.gn hi' fun x hx => WP.bd (hrc x (List.mem_of_getElem? hx)) (WP.ckI (by omega) (WP.ret ⟨⟨by simp only; omega, ?_⟩, by simp only; omega⟩))
        simp only
        rw [depL_take_succ hx, g2]
        split <;> omega
      · have e : i = v.l.length := by omega
        rw [e, List.take_length] at g2
        have hdd : depL v.l ≤ 1000 := depL_le.2 hd
        refine WP.up ?_
        show WP (g_ref02_Depth_s_j2 d) fun r => r = ((dep v : Nat) : Int)
        unfold g_ref02_Depth_s_j2
        refine WP.ckI (by omega) (WP.ret ?_)
        rw [hdep, g2]; simp
  unfold g_ref02_Depth_s
  refine WP.iteE (fun h => hflat true (by simp [h])) (fun h => hflat _ (by simp [h]))
theorem rDepth_eq : ∀ (fu : Nat) (v : Val), hgt v ≤ fu → fu ≤ 1000 → rng v → g_ref02_Depth fu v = some ((dep v : Nat) : Int)
  | 0, .mk k n s l ks, h, _, _ => by simp [hgt] at h
  | fu + 1, .mk k n s l ks, h, hf, hr => by
    simp only [hgt, Nat.add_le_add_iff_right, hgtL_le] at h
    simp only [rng, rngL_iff] at hr
    exact WP.eq (rDepth_s (v := .mk k n s l ks) (fun x hx => rDepth_eq fu x (h x hx) (by omega) (hr.2.2.2.2.2.2 x hx)) (fun x hx => Nat.le_trans (dep_hgt x) (by have := h x hx; omega)) hr.2.2.2.1)
theorem rCheck_eq {v : Val} (h : hgt v ≤ 60) (hr : rng v) : g_ref02_Check v = some (chk v) := by
  refine WP.eq ?_
  unfold g_ref02_Check
  refine WP.bd (rFormed_eq 60 v h hr) ?_
  unfold chk
  refine WP.iteNb (WP.iteB (fun hw => ?_) (fun hw => WP.ret (by simp [hw])))
  refine WP.bd (rDepth_eq 60 v h (by omega) hr) ?_
  refine WP.iteD (fun h => WP.ret ?_) (fun h => WP.ret ?_)
  · rw [if_pos hw, if_pos (by omega)]
  · rw [if_pos hw, if_neg (by omega)]
theorem tdiv_nat (a b : Nat) : ((a : Nat) : Int).tdiv ((b : Nat) : Int) = ((a / b : Nat) : Int) := by
  rw [Int.tdiv_eq_ediv_of_nonneg (Int.natCast_nonneg a)]; rfl
def keyS (ks : List (List UInt8)) : Nat := (ks.map fun k => k.length / 50).sum
theorem keyS_take {ks : List (List UInt8)} {i : Nat} {x : List UInt8} (h : ks[i]? = some x) : keyS (ks.take (i + 1)) = keyS (ks.take i) + x.length / 50 := by
  simp [keyS, List.take_add_one, h]
theorem cntL_take {l : List Val} {i : Nat} {x : Val} (h : l[i]? = some x) : cntL (l.take (i + 1)) = cntL (l.take i) + cnt x := by
  rw [List.take_add_one, h, cntL_append]; simp [cntL]
end Go.Proofs.YtimalbkjflfdoaaDoor

set_option maxRecDepth 100000
namespace Go.Proofs.YtimalbkjflfdoaaDoor
open Go.DL
theorem list_ext_of {α : Type} {a b : List α} (hl : a.length = b.length) (h : ∀ (i : Nat) (x y : α), a[i]? = some x → b[i]? = some y → x = y) : a = b := by
  apply List.ext_getElem hl
  intro i h1 h2
  exact h i _ _ (List.getElem?_eq_getElem h1) (List.getElem?_eq_getElem h2)
theorem WP.iteL {α ρ : Type} {Q : ρ → Prop} [BEq α] [LawfulBEq α] {x y : α} [i : Decidable ((x == y) = true)] {a b : Option ρ} (h1 : x = y → WP a Q) (h2 : ¬ x = y → WP b Q) : WP (@ite _ ((x == y) = true) i a b) Q := by
  by_cases h : x = y
  · rw [if_pos (beq_iff_eq.2 h)]; exact h1 h
  · rw [if_neg (by simpa using h)]; exact h2 h
theorem lnat {a b : Nat} : (((a : Nat) : Int) != ((b : Nat) : Int)) = true ↔ a ≠ b := by simp; omega
def upto {α : Type} (a b : List α) (i : Nat) : Prop := ∀ (j : Nat) (x y : α), j < i → a[j]? = some x → b[j]? = some y → x = y
theorem upto_succ {α : Type} {a b : List α} {i : Nat} {x y : α} (h : upto a b i) (hx : a[i]? = some x) (hy : b[i]? = some y) (e : x = y) : upto a b (i + 1) := by
  intro j p q hj hp hq
  by_cases hji : j = i
  · subst hji; rw [hx] at hp; rw [hy] at hq; cases hp; cases hq; exact e
  · exact h j p q (by omega) hp hq
theorem upto_end {α : Type} {a b : List α} (hl : a.length = b.length) (h : upto a b a.length) : a = b :=
  list_ext_of hl fun i x y hx hy => h i x y (List.getElem?_eq_some_iff.1 hx).1 hx hy
theorem upto_ne {α : Type} {a b : List α} {i : Nat} {x y : α} (hx : a[i]? = some x) (hy : b[i]? = some y) (e : x ≠ y) : a ≠ b := fun h => by subst h; rw [hx] at hy; exact e (Option.some.inj hy)
theorem equalS_eq {a b : List (List UInt8)} (ha : a.length ≤ 140737488355328) : WP (g_slices_Equal_Lstring_string a b) fun r => r = true ↔ a = b := by
  unfold g_slices_Equal_Lstring_string
  refine WP.iteN (fun h => WP.ret ?_) (fun h => ?_)
  · have : a ≠ b := fun e => h (by rw [e])
    simp [this]
  · have hl : a.length = b.length := by omega
    refine WP.loop (fun i => i ≤ a.length ∧ upto a b i) (fun i => a.length - i) ?_ ⟨by omega, fun j x y h => by omega⟩
    rintro i ⟨g1, g2⟩
    simp only [g_slices_Equal_Lstring_string_l2]
    refine WP.iteD (fun hi => ?_) (fun hi => WP.up (WP.ret ?_))
    · refine WP.gn (by omega) fun x hx => WP.gn (by omega) fun y hy => WP.iteNb (WP.iteL (fun e => WP.ckI (by omega) (WP.ret ⟨⟨by omega, upto_succ g2 hx hy e⟩, by show a.length - (i + 1) < a.length - i; omega⟩)) (fun e => WP.up (WP.ret ?_)))
      show false = true ↔ a = b
      simp [upto_ne hx hy e]
    · show true = true ↔ a = b
      have e : i = a.length := by omega
      subst e
      simp [upto_end hl g2]
theorem Val.ext_iff' {a b : Val} : a = b ↔ a.k = b.k ∧ a.n = b.n ∧ a.s = b.s ∧ a.ks = b.ks ∧ a.l = b.l := by
  cases a; cases b
  simp only [Val.mk.injEq, Val.k, Val.n, Val.s, Val.l, Val.ks]
  constructor <;> rintro ⟨h1, h2, h3, h4, h5⟩ <;> exact ⟨h1, h2, h3, h5, h4⟩
theorem same_s {rc : Val → Val → Option Bool} {a b : Val} (hrc : ∀ x ∈ a.l, ∀ y, WP (rc x y) fun r => r = true ↔ x = y) (h1 : a.l.length ≤ 140737488355328) (h2 : a.ks.length ≤ 140737488355328) : WP (g_codec_Same_s rc a b) fun r => r = true ↔ a = b := by
  have no : ∀ {p : Prop}, ¬ p → (false = true ↔ p) := fun h => by simp [h]
  unfold g_codec_Same_s
  refine WP.iteE (fun ek => ?_) (fun ek => WP.ret (no fun e => ek (by rw [e])))
  refine WP.iteE (fun en => ?_) (fun en => WP.ret (no fun e => en (by rw [e])))
  refine WP.iteL (fun es => ?_) (fun es => WP.ret (no fun e => es (by rw [e])))
  refine WP.bdW ((equalS_eq h2).mono fun r hr => ?_)
  refine WP.iteB (fun er => ?_) (fun er => WP.ret (no fun e => by rw [hr.2 (by rw [e])] at er; cases er))
  have eks := hr.1 er
  unfold g_codec_Same_s_j1
  refine WP.iteN (fun h => WP.ret (no fun e => h (by rw [e]))) (fun h => ?_)
  have hl : a.l.length = b.l.length := by omega
  refine WP.loop (fun i => i ≤ a.l.length ∧ upto a.l b.l i) (fun i => a.l.length - i) ?_ ⟨by omega, fun j x y h => by omega⟩
  rintro i ⟨g1, g2⟩
  simp only [g_codec_Same_s_l3]
  refine WP.iteD (fun hi => ?_) (fun hi => WP.up (WP.ret ?_))
  · refine WP.gn (by omega) fun x hx => WP.gn (by omega) fun y hy => WP.bdW ((hrc x (List.mem_of_getElem? hx) y).mono fun q hq => ?_)
    refine WP.iteNb (WP.iteB (fun e => WP.ckI (by omega) (WP.ret ⟨⟨by omega, upto_succ g2 hx hy (hq.1 e)⟩, by show a.l.length - (i + 1) < a.l.length - i; omega⟩)) (fun e => WP.up (WP.ret ?_)))
    show false = true ↔ a = b
    exact no fun ee => upto_ne hx hy (fun e2 => by rw [hq.2 e2] at e; cases e) (by rw [ee])
  · show true = true ↔ a = b
    have e : i = a.l.length := by omega
    subst e
    simp only [true_iff]
    exact Val.ext_iff'.2 ⟨ek, en, es, eks, upto_end hl g2⟩
theorem same_eq : ∀ (fu : Nat) (a b : Val), hgt a ≤ fu → rng a → WP (g_codec_Same fu a b) fun r => r = true ↔ a = b
  | 0, .mk k n s l ks, b, h, _ => by simp [hgt] at h
  | fu + 1, .mk k n s l ks, b, h, hr => by
    simp only [hgt, Nat.add_le_add_iff_right, hgtL_le] at h
    simp only [rng, rngL_iff] at hr
    exact same_s (a := .mk k n s l ks) (fun x hx y => same_eq fu x y (h x hx) (hr.2.2.2.2.2.2 x hx)) hr.2.2.2.1 hr.2.2.2.2.1
theorem rsame_s {rc : Val → Val → Option Bool} {a b : Val} (hrc : ∀ x ∈ a.l, ∀ y, WP (rc x y) fun r => r = true ↔ x = y) (h1 : a.l.length ≤ 140737488355328) (h2 : a.ks.length ≤ 140737488355328) : WP (g_ref02_Same_s rc a b) fun r => r = true ↔ a = b := by
  have no : ∀ {p : Prop}, ¬ p → (false = true ↔ p) := fun h => by simp [h]
  unfold g_ref02_Same_s g_ref02_Same_s_j1
  refine WP.iteN (fun h => WP.iteT (WP.ret (no fun e => h (by rw [e])))) (fun ek => ?_)
  refine WP.iteN (fun h => WP.iteT (WP.ret (no fun e => h (by rw [e])))) (fun en => ?_)
  refine WP.iteNb (WP.iteL (fun es => ?_) (fun h => WP.iteT (WP.ret (no fun e => h (by rw [e])))))
  refine WP.iteN (fun h => WP.iteT (WP.ret (no fun e => h (by rw [e])))) (fun hl' => ?_)
  refine WP.iteB (fun h => WP.ret (no fun e => lnat.1 h (by rw [e]))) (fun h => ?_)
  have hl : a.l.length = b.l.length := by omega
  have hk : a.ks.length = b.ks.length := by
    rcases Nat.decEq a.ks.length b.ks.length with h3 | h3
    · rw [lnat.2 h3] at h; cases h
    · exact h3
  refine WP.loop (fun i => i ≤ a.ks.length ∧ upto a.ks b.ks i) (fun i => a.ks.length - i) ?_ ⟨by omega, fun j x y h => by omega⟩
  rintro i ⟨g1, g2⟩
  simp only [g_ref02_Same_s_l5]
  refine WP.iteD (fun hi => ?_) (fun hi => WP.up ?_)
  · refine WP.gn (by omega) fun x hx => WP.gn (by omega) fun y hy => WP.iteNb (WP.iteL (fun e => WP.ckI (by omega) (WP.ret ⟨⟨by omega, upto_succ g2 hx hy e⟩, by show a.ks.length - (i + 1) < a.ks.length - i; omega⟩)) (fun e => WP.up (WP.ret ?_)))
    show false = true ↔ a = b
    exact no fun ee => upto_ne hx hy e (by rw [ee])
  show WP (g_ref02_Same_s_j2 a b rc) fun r => r = true ↔ a = b
  have e : i = a.ks.length := by omega
  subst e
  have eks := upto_end hk g2
  unfold g_ref02_Same_s_j2
  refine WP.loop (fun i => i ≤ a.l.length ∧ upto a.l b.l i) (fun i => a.l.length - i) ?_ ⟨by omega, fun j x y h => by omega⟩
  rintro i ⟨g1, g2⟩
  simp only [g_ref02_Same_s_l4]
  refine WP.iteD (fun hi => ?_) (fun hi => WP.up (WP.ret ?_))
  · refine WP.gn (by omega) fun x hx => WP.gn (by omega) fun y hy => WP.bdW ((hrc x (List.mem_of_getElem? hx) y).mono fun q hq => ?_)
    refine WP.iteNb (WP.iteB (fun e => WP.ckI (by omega) (WP.ret ⟨⟨by omega, upto_succ g2 hx hy (hq.1 e)⟩, by show a.l.length - (i + 1) < a.l.length - i; omega⟩)) (fun e => WP.up (WP.ret ?_)))
    show false = true ↔ a = b
    exact no fun ee => upto_ne hx hy (fun e2 => by rw [hq.2 e2] at e; cases e) (by rw [ee])
  · show true = true ↔ a = b
    have e : i = a.l.length := by omega
    subst e
    simp only [true_iff]
    exact Val.ext_iff'.2 ⟨ek, en, es, eks, upto_end hl g2⟩
theorem rsame_eq : ∀ (fu : Nat) (a b : Val), hgt a ≤ fu → rng a → WP (g_ref02_Same fu a b) fun r => r = true ↔ a = b
  | 0, .mk k n s l ks, b, h, _ => by simp [hgt] at h
  | fu + 1, .mk k n s l ks, b, h, hr => by
    simp only [hgt, Nat.add_le_add_iff_right, hgtL_le] at h
    simp only [rng, rngL_iff] at hr
    exact rsame_s (a := .mk k n s l ks) (fun x hx y => rsame_eq fu x y (h x hx) (hr.2.2.2.2.2.2 x hx)) hr.2.2.2.1 hr.2.2.2.2.1
def getV (v : Val) (key : List UInt8) : Val × Bool := if v.k = 4 then (match v.l[v.ks.idxOf key]? with | some x => if v.ks.idxOf key < v.ks.length then (x, true) else (zV, false) | none => (zV, false)) else (zV, false)
theorem idxOf_ne {a key : List UInt8} {l : List (List UInt8)} (h : a ≠ key) : (a :: l).idxOf key = l.idxOf key + 1 := by
  rw [List.idxOf_cons, beq_eq_false_iff_ne.2 h]; rfl
theorem idxOf_at {l : List (List UInt8)} {key : List UInt8} {i : Nat} (h1 : ∀ x ∈ l.take i, x ≠ key) (h2 : l[i]? = some key) : l.idxOf key = i := by
  induction l generalizing i with
  | nil => simp at h2
  | cons a l ih =>
    cases i with
    | zero => simp at h2; subst h2; simp
    | succ i =>
      have hne : a ≠ key := h1 a (by simp)
      rw [idxOf_ne hne, ih (i := i) (fun x hx => h1 x (by simp [hx])) (by simpa using h2)]
theorem idxOf_none {l : List (List UInt8)} {key : List UInt8} (h1 : ∀ x ∈ l, x ≠ key) : l.idxOf key = l.length := by
  induction l with
  | nil => rfl
  | cons a l ih =>
    have hne : a ≠ key := h1 a (by simp)
    rw [idxOf_ne hne, ih (fun x hx => h1 x (by simp [hx])), List.length_cons]
theorem indexS_eq {l : List (List UInt8)} {key : List UInt8} (hl : l.length ≤ 140737488355328) : g_slices_Index_Lstring_string l key = some (if l.idxOf key < l.length then ((l.idxOf key : Nat) : Int) else -1) := by
  refine WP.eq ?_
  unfold g_slices_Index_Lstring_string
  refine WP.loop (fun i => i ≤ l.length ∧ ∀ x ∈ l.take i, x ≠ key) (fun i => l.length - i) ?_ ⟨by omega, by simp⟩
  rintro i ⟨g1, g2⟩
  simp only [g_slices_Index_Lstring_string_l2]
  refine WP.iteD (fun hi => ?_) (fun hi => WP.up (WP.ret ?_))
  · refine WP.gn (by omega) fun x hx => WP.iteL (fun e => WP.up (WP.ret ?_)) (fun e => WP.ckI (by omega) (WP.ret ⟨⟨by omega, ?_⟩, by show l.length - (i + 1) < l.length - i; omega⟩))
    · subst e
      show ((i : Nat) : Int) = _
      rw [idxOf_at g2 hx, if_pos (by omega)]
    · intro y hy
      rw [List.take_add_one, hx] at hy
      rcases List.mem_append.1 hy with hy | hy
      · exact g2 y hy
      · simp at hy; subst hy; exact fun h => e h.symm
  · show (-1 : Int) = _
    have e : i = l.length := by omega
    rw [e, List.take_length] at g2
    rw [idxOf_none g2, if_neg (by omega)]
theorem get_eq {v : Val} {key : List UInt8} (h1 : v.ks.length ≤ 140737488355328) (h2 : v.l.length ≤ 140737488355328) : g_codec_Get v key = some (getV v key) := by
  refine WP.eq ?_
  unfold g_codec_Get
  refine WP.bd (indexS_eq h1) ?_
  unfold g_codec_Get_j1 getV
  refine WP.iteN (fun h => WP.iteT (WP.ret (by rw [if_neg h]; rfl))) (fun h => ?_)
  rw [if_pos h]
  by_cases hi : v.ks.idxOf key < v.ks.length
  · rw [if_pos hi]
    refine WP.iteD (fun h => by omega) (fun _ => WP.iteB (fun hb => WP.ret ?_) (fun hb => ?_))
    · have hb' := of_decide_eq_true hb
      rw [List.getElem?_eq_none (by omega)]; rfl
    · have hb' := of_decide_eq_false hb
      refine WP.gt (by omega) fun x hx => WP.ret ?_
      rw [show ((v.ks.idxOf key : Nat) : Int).toNat = v.ks.idxOf key by omega] at hx
      rw [hx]; simp [hi]
  · rw [if_neg hi]
    refine WP.iteD (fun h => WP.iteT (WP.ret ?_)) (fun h => by omega)
    cases v.l[v.ks.idxOf key]? with
    | none => rfl
    | some x => simp [hi]; rfl
end Go.Proofs.YtimalbkjflfdoaaDoor

set_option maxRecDepth 100000
namespace Go.Proofs.YtimalbkjflfdoaaDoor
open Go.DL
section
variable {α ρ : Type} {Q : ρ → Prop}
theorem WP.bdP {o : Option (α ⊕ Unit)} {k : α → Option ρ} {z : Option ρ} {x : α} (ho : o = some (.inl x)) (h : WP (k x) Q) : WP (Go.DL.bdP o k z) Q := by rw [ho]; exact h
theorem WP.bdPz {o : Option (α ⊕ Unit)} {k : α → Option ρ} {z : Option ρ} (ho : o = some (.inr ())) (h : WP z Q) : WP (Go.DL.bdP o k z) Q := by rw [ho]; exact h
end
theorem u64w {x : Int} (h0 : 0 ≤ x) (h1 : x < 18446744073709551616) : IntKind.u64.wrap x = x := by
  simp only [IntKind.wrap, IntKind.bits, IntKind.signed]
  simp
  omega
theorem u64n {x : Int} (h0 : -18446744073709551616 ≤ x) (h1 : x < 0) : IntKind.u64.wrap x = x + 18446744073709551616 := by
  simp only [IntKind.wrap, IntKind.bits, IntKind.signed]
  simp
  omega
theorem digit_piece {d : Nat} (h : d < 10) : subList ([48, 49, 50, 51, 52, 53, 54, 55, 56, 57] : List UInt8) (some ((d : Nat) : Int)) (some (((d : Nat) : Int) + 1)) = [UInt8.ofNat (48 + d)] := by
  have : d = 0 ∨ d = 1 ∨ d = 2 ∨ d = 3 ∨ d = 4 ∨ d = 5 ∨ d = 6 ∨ d = 7 ∨ d = 8 ∨ d = 9 := by omega
  rcases this with rfl | rfl | rfl | rfl | rfl | rfl | rfl | rfl | rfl | rfl <;> rfl
theorem digits_eq : ∀ (fu u : Nat), u < 10 ^ (fu + 1) → u < 18446744073709551616 → g_ref02_Digits (fu + 1) ((u : Nat) : Int) = some (Lib.decDigits u) := by
  intro fu
  induction fu with
  | zero =>
    intro u h h2
    refine WP.eq ?_
    show WP (g_ref02_Digits_s (g_ref02_Digits 0) _) _
    unfold g_ref02_Digits_s
    have e1 : ((u : Nat) : Int).tmod 10 = ((u % 10 : Nat) : Int) := by
      rw [Int.tmod_eq_emod_of_nonneg (Int.natCast_nonneg u)]; rfl
    rw [e1, u64w (by omega) (by omega)]
    refine WP.sb ⟨by simp only [Option.getD_some]; omega, by simp only [Option.getD_some]; omega, by simp only [Option.getD_some, List.length_cons, List.length_nil]; omega⟩ ?_
    rw [digit_piece (by omega)]
    refine WP.iteD (fun hs => WP.ret ?_) (fun hs => by omega)
    rw [Lib.decDigits_one (by omega), Nat.mod_eq_of_lt (by omega)]
  | succ fu ih =>
    intro u h h2
    refine WP.eq ?_
    show WP (g_ref02_Digits_s (g_ref02_Digits (fu + 1)) _) _
    unfold g_ref02_Digits_s
    have e1 : ((u : Nat) : Int).tmod 10 = ((u % 10 : Nat) : Int) := by
      rw [Int.tmod_eq_emod_of_nonneg (Int.natCast_nonneg u)]; rfl
    have e2 : ((u : Nat) : Int).tdiv 10 = ((u / 10 : Nat) : Int) := tdiv_nat u 10
    rw [e1, e2, u64w (x := ((u % 10 : Nat) : Int) + 1) (by omega) (by omega), u64w (x := ((u / 10 : Nat) : Int)) (by omega) (by omega)]
    refine WP.sb ⟨by simp only [Option.getD_some]; omega, by simp only [Option.getD_some]; omega, by simp only [Option.getD_some, List.length_cons, List.length_nil]; omega⟩ ?_
    rw [digit_piece (by omega)]
    refine WP.iteD (fun hs => WP.ret ?_) (fun hs => ?_)
    · rw [Lib.decDigits_one (by omega), Nat.mod_eq_of_lt (by omega)]
    · refine WP.bd (ih (u / 10) (by rw [Nat.pow_succ] at h; omega) (by omega)) ?_
      have := decDigits_len (u := u / 10) (by omega)
      refine WP.ck (by simp; omega) (WP.ret ?_)
      rw [Lib.decDigits.eq_1 u, dif_neg (by omega)]
theorem digits60 {u : Nat} (h : u < 18446744073709551616) : g_ref02_Digits 60 ((u : Nat) : Int) = some (Lib.decDigits u) :=
  digits_eq 59 u (Nat.lt_of_lt_of_le h (by decide)) h
theorem decimal_eq {n : Int} (h : i64 n) : g_ref02_Decimal n = some (Lib.itoa n) := by
  obtain ⟨h1, h2⟩ := h
  refine WP.eq ?_
  unfold g_ref02_Decimal Lib.itoa
  refine WP.iteD (fun hn => ?_) (fun hn => ?_)
  · have e : IntKind.u64.wrap ((IntKind.u64.wrap (0 - (n + 1))) + 1) = ((n.natAbs : Nat) : Int) := by
      rw [u64w (x := 0 - (n + 1)) (by omega) (by omega), u64w (by omega) (by omega)]; omega
    rw [e]
    refine WP.ckI (by omega) (WP.ckI (by omega) (WP.bd (digits60 (by omega)) ?_))
    have := decDigits_len (u := n.natAbs) (by omega)
    refine WP.ck (by simp; omega) (WP.ret ?_)
    rw [if_pos hn]; rfl
  · have e : IntKind.u64.wrap n = ((n.toNat : Nat) : Int) := by rw [u64w (by omega) (by omega)]; omega
    rw [e, if_neg hn]
    exact WP.bd (digits60 (by omega)) (WP.ret rfl)
theorem rtext_eq {s : List UInt8} (h : s.length ≤ 70368744177664) : g_ref02_text s = some (txt s) := by
  refine WP.eq ?_
  unfold g_ref02_text
  rw [u64w (by omega) (by omega)]
  refine WP.bd (digits60 (by omega)) ?_
  have := decDigits_len (u := s.length) (by omega)
  refine WP.ck (by simp; omega) (WP.ck (by simp; omega) (WP.ck (by simp; omega) (WP.ret ?_)))
  simp [txt]
theorem appInt_eq {dst : List UInt8} {n : Int} (h : i64 n) (hd : dst.length ≤ 70368744177664) : g_strconv_AppendInt dst n 10 = some (.inl (dst ++ Lib.itoa n)) := by
  obtain ⟨h1, h2⟩ := h
  refine WP.eq ?_
  unfold g_strconv_AppendInt g_strconv_AppendInt_j1 Lib.itoa
  refine WP.iteD (fun hn => ?_) (fun hn => ?_)
  · have e : IntKind.u64.wrap (0 - IntKind.u64.wrap n) = ((n.natAbs : Nat) : Int) := by
      rw [u64n (x := n) (by omega) hn, u64n (by omega) (by omega)]; omega
    rw [e]
    refine WP.ck (by simp; omega) (WP.ck (by simp; omega) (WP.ck (by omega) (WP.ck rfl (WP.ret ?_))))
    rw [if_pos hn, Int.toNat_natCast]; simp
  · have e : IntKind.u64.wrap n = ((n.toNat : Nat) : Int) := by rw [u64w (by omega) (by omega)]; omega
    rw [e, if_neg hn]
    refine WP.ck (by omega) (WP.ck (by omega) (WP.ck rfl (WP.ret ?_)))
    rw [Int.toNat_natCast]
theorem text_eq {b s : List UInt8} (hb : b.length ≤ 35184372088832) (h : s.length ≤ 35184372088832) : g_codec_text b s = some (.inl (b ++ txt s)) := by
  refine WP.eq ?_
  unfold g_codec_text
  refine WP.bdP (appInt_eq ⟨by omega, by omega⟩ (by omega)) ?_
  have := decDigits_len (u := s.length) (by omega)
  rw [Lib.itoa_nonneg]
  refine WP.ck (by simp; omega) (WP.ck (by simp; omega) (WP.ret ?_))
  simp [txt]
theorem w1_eq {b : List UInt8} {v : Val} (hk : v.k = 1) (hr : i64 v.n) (hb : b.length ≤ 35184372088832) : g_codec_newWriter_1 b v = some (.inl (b ++ enc v)) := by
  refine WP.eq ?_
  unfold g_codec_newWriter_1
  have := Lib.itoa_length_le v.n hr.1 hr.2
  refine WP.ck (by simp; omega) (WP.bdP (appInt_eq hr (by simp; omega)) (WP.ck (by simp; omega) (WP.ret ?_)))
  cases v with
  | mk k n s l ks => simp only [Val.k] at hk; subst hk; simp [enc, Val.n]
theorem w2_eq {b : List UInt8} {v : Val} (hk : v.k = 2) (hs : v.s.length ≤ 35184372088832) (hb : b.length ≤ 35184372088832) : g_codec_newWriter_2 b v = some (.inl (b ++ enc v)) := by
  refine WP.eq ?_
  unfold g_codec_newWriter_2
  refine WP.bdP (text_eq hb hs) (WP.ret ?_)
  cases v with
  | mk k n s l ks => simp only [Val.k] at hk; subst hk; simp [enc, Val.s]
def Wr (b : List UInt8) (v : Val) : Prop := wf v = true ∧ rng v ∧ b.length + 300 * cnt v ≤ 17592186044416
theorem wf_k {v : Val} (h : wf v = true) : v.k = 1 ∨ v.k = 2 ∨ v.k = 3 ∨ v.k = 4 := by
  rcases Int.lt_or_le v.k 1 with h1 | h1
  · rw [wf_out (.inl h1)] at h; cases h
  rcases Int.lt_or_le 4 v.k with h2 | h2
  · rw [wf_out (.inr h2)] at h; cases h
  omega
theorem encL_take {l : List Val} {i : Nat} {x : Val} (h : l[i]? = some x) : encL (l.take (i + 1)) = encL (l.take i) ++ enc x := by
  rw [List.take_add_one, h, encL_append]; simp [encL]
theorem encD_take {ks : List (List UInt8)} {l : List Val} {i : Nat} {x : Val} {k : List UInt8} (h : l[i]? = some x) (hk : ks[i]? = some k) : encD ks (l.take (i + 1)) = encD ks (l.take i) ++ (txt k ++ enc x) := by
  have hi := (List.getElem?_eq_some_iff.1 h).1
  rw [List.take_add_one, h, encD_append]
  have e : (List.take i l).length = i := by simp; omega
  rw [e]
  have : (ks.drop i).headD [] = k := by
    rw [List.headD_eq_head?_getD, List.head?_drop, hk]; rfl
  simp only [Option.toList, encD, this, List.append_nil]
theorem cntL_take_le (l : List Val) (i : Nat) : cntL (l.take i) ≤ cntL l := by
  rw [← List.take_append_drop i l, cntL_append]
  rw [List.take_append_drop]
  omega
theorem keyS_take_le (l : List (List UInt8)) (i : Nat) : keyS (l.take i) ≤ keyS l := by
  have : keyS l = keyS (l.take i) + keyS (l.drop i) := by
    simp only [keyS, ← List.sum_append, ← List.map_append, List.take_append_drop]
  omega
theorem s_cnt (k n : Int) (s : List UInt8) (l : List Val) (ks : List (List UInt8)) : s.length ≤ 200 * cnt (.mk k n s l ks) := by simp only [cnt]; omega
theorem keyS_mem {ks : List (List UInt8)} {k : List UInt8} (h : k ∈ ks) : k.length / 50 ≤ keyS ks := by
  induction ks with
  | nil => cases h
  | cons a r ih =>
    simp only [keyS, List.map_cons, List.sum_cons]
    rcases List.mem_cons.1 h with rfl | h
    · omega
    · have := ih h; simp only [keyS] at this; omega
theorem k_cnt {k n : Int} {s : List UInt8} {l : List Val} {ks : List (List UInt8)} {x : List UInt8} (h : x ∈ ks) : x.length ≤ 50 * cnt (.mk k n s l ks) := by
  have := keyS_mem h
  simp only [cnt, keyS] at *
  omega
theorem w3_s {rc43 rc44 : List UInt8 → Val → Option (List UInt8 ⊕ Unit)} {b : List UInt8} {v : Val} (hk : v.k = 3) (hw : Wr b v)
    (h3 : ∀ x ∈ v.l, ∀ b, x.k = 3 → Wr b x → rc43 b x = some (.inl (b ++ enc x))) (h4 : ∀ x ∈ v.l, ∀ b, x.k = 4 → Wr b x → rc44 b x = some (.inl (b ++ enc x))) : WP (g_codec_newWriter_3_s rc43 rc44 b v) fun r => r = .inl (b ++ enc v) := by
  obtain ⟨w1, w2, w3⟩ := hw
  cases v with
  | mk k n s l ks =>
    simp only [Val.k] at hk
    simp only [Val.l] at h3 h4
    subst hk
    simp only [rng, rngL_iff] at w2
    obtain ⟨r1, r2, r3, r4, r5, r6, r7⟩ := w2
    have hwl : ∀ x ∈ l, wf x = true := by
      have : wfL l = true := by
        have := w1; simp only [wf] at this
        simp only [show ((3 : Int) == 1) = false by decide, show ((3 : Int) == 2) = false by decide, show ((3 : Int) == 4) = false by decide, Bool.false_and, Bool.false_or, Bool.or_false, Bool.and_eq_true] at this
        exact this.2
      exact wfL_iff.1 this
    have hc : 1 + cntL l ≤ cnt (.mk 3 n s l ks) := by simp only [cnt]; omega
    have henc : enc (.mk 3 n s l ks) = 108 :: (encL l ++ [101]) := by simp [enc]
    unfold g_codec_newWriter_3_s
    refine WP.ck (by simp; omega) ?_
    refine WP.loop (fun (p : Nat × List UInt8) => p.1 ≤ l.length ∧ p.2 = b ++ 108 :: encL (l.take p.1)) (fun p => l.length - p.1) ?_ ⟨by simp, by simp [encL]⟩
    rintro ⟨i, acc⟩ ⟨g1, g2⟩
    simp only at g1 g2
    have hlen : acc.length ≤ b.length + 1 + 300 * cntL (l.take i) := by
      have := encL_len (l.take i) (fun x hx => enc_len (r7 x (List.mem_of_mem_take hx)) (hwl x (List.mem_of_mem_take hx)))
      rw [g2]; simp; omega
    simp only [g_codec_newWriter_3_s_l2, Val.l]
    refine WP.iteD (fun hi => ?_) (fun hi => WP.up ?_)
    · have hi' : i < l.length := by omega
      refine WP.gn hi' fun x (hx : l[i]? = some x) => ?_
      have hxm := List.mem_of_getElem? hx
      have hct := cntL_take hx
      have hct2 := cntL_take_le l (i + 1)
      have hrx := r7 x hxm
      have hwx := hwl x hxm
      have hWr : Wr acc x := ⟨hwx, hrx, by omega⟩
      have hfin : WP (g_codec_newWriter_3_s_j3 i (.mk 3 n s l ks) (acc ++ enc x)) (Rnd (fun (p : Nat × List UInt8) => p.1 ≤ l.length ∧ p.2 = b ++ 108 :: encL (l.take p.1)) (fun p => l.length - p.1) (l.length - i) fun r => r = .inl (b ++ enc (.mk 3 n s l ks))) := by
        unfold g_codec_newWriter_3_s_j3
        refine WP.ckI (by omega) (WP.ret ⟨⟨by simp only; omega, ?_⟩, by simp only; omega⟩)
        simp only
        rw [encL_take hx, g2]; simp
      have hkx := wf_k hwx
      refine WP.iteE (fun h => by omega) (fun _ => WP.iteE (fun h => ?_) (fun _ => WP.iteE (fun h => ?_) (fun _ => WP.iteE (fun h => ?_) (fun _ => WP.ck (by omega) ?_))))
      · refine WP.bdP (w1_eq h ?_ (by omega)) hfin
        cases x with
        | mk k' n' s' l' ks' => simp only [rng] at hrx; exact hrx.2.1
      · refine WP.bdP (w2_eq h ?_ (by omega)) hfin
        cases x with
        | mk k' n' s' l' ks' => have := s_cnt k' n' s' l' ks'; simp only [Val.s]; omega
      · exact WP.bdP (h3 x hxm acc h hWr) hfin
      · exact WP.bdP (h4 x hxm acc (by omega) hWr) hfin
    · have e : i = l.length := by omega
      rw [e, List.take_length] at g2 hlen
      show WP (g_codec_newWriter_3_s_j1 acc) fun r => r = .inl (b ++ enc (.mk 3 n s l ks))
      unfold g_codec_newWriter_3_s_j1
      refine WP.ck (by simp; omega) (WP.ret ?_)
      rw [g2, henc]; simp
theorem w4_s {rc43 rc44 : List UInt8 → Val → Option (List UInt8 ⊕ Unit)} {b : List UInt8} {v : Val} (hk : v.k = 4) (hw : Wr b v)
    (h3 : ∀ x ∈ v.l, ∀ b, x.k = 3 → Wr b x → rc43 b x = some (.inl (b ++ enc x))) (h4 : ∀ x ∈ v.l, ∀ b, x.k = 4 → Wr b x → rc44 b x = some (.inl (b ++ enc x))) : WP (g_codec_newWriter_4_s rc43 rc44 b v) fun r => r = .inl (b ++ enc v) := by
  obtain ⟨w1, w2, w3⟩ := hw
  cases v with
  | mk k n s l ks =>
    simp only [Val.k] at hk
    simp only [Val.l] at h3 h4
    subst hk
    simp only [rng, rngL_iff] at w2
    obtain ⟨r1, r2, r3, r4, r5, r6, r7⟩ := w2
    have hw0 : ks.length = l.length ∧ wfL l = true := by
      have := w1; simp only [wf] at this
      simp only [show ((4 : Int) == 1) = false by decide, show ((4 : Int) == 2) = false by decide, show ((4 : Int) == 3) = false by decide, Bool.false_and, Bool.false_or, Bool.or_false, Bool.and_eq_true, beq_iff_eq] at this
      exact ⟨this.1.1.2, this.2⟩
    obtain ⟨hkl, hwl0⟩ := hw0
    have hwl := wfL_iff.1 hwl0
    have hc : 1 + ks.length + keyS ks + cntL l ≤ cnt (.mk 4 n s l ks) := by simp only [cnt, keyS]; omega
    have henc : enc (.mk 4 n s l ks) = 100 :: (encD ks l ++ [101]) := by simp [enc]
    unfold g_codec_newWriter_4_s
    refine WP.ck (by simp; omega) ?_
    refine WP.loop (fun (p : Nat × List UInt8) => p.1 ≤ l.length ∧ p.2 = b ++ 100 :: encD ks (l.take p.1)) (fun p => l.length - p.1) ?_ ⟨by simp, by simp [encD]⟩
    rintro ⟨i, acc⟩ ⟨g1, g2⟩
    simp only at g1 g2
    have hlen : acc.length ≤ b.length + 1 + 300 * (i + keyS (ks.take i) + cntL (l.take i)) := by
      have h9 : encD ks (l.take i) = encD (ks.take i) (l.take i) := by
        conv => lhs; rw [← List.take_append_drop i ks]
        exact encD_keys _ _ _ (by simp; omega)
      have := encD_len (ks.take i) (l.take i) (fun q hq => r6 q (List.mem_of_mem_take hq)) (fun x hx => enc_len (r7 x (List.mem_of_mem_take hx)) (hwl x (List.mem_of_mem_take hx))) (by simp; omega)
      rw [← h9] at this
      rw [g2]
      simp only [List.length_append, List.length_cons, List.length_take, keyS] at *
      omega
    simp only [g_codec_newWriter_4_s_l2, Val.l, Val.ks]
    refine WP.iteD (fun hi => ?_) (fun hi => WP.up ?_)
    · have hi' : i < l.length := by omega
      refine WP.gn hi' fun x (hx : l[i]? = some x) => ?_
      have hxm := List.mem_of_getElem? hx
      have hct := cntL_take hx
      have hct2 := cntL_take_le l (i + 1)
      have hrx := r7 x hxm
      have hwx := hwl x hxm
      obtain ⟨key, hkey⟩ : ∃ key, ks[i]? = some key := ⟨ks[i]'(by omega), List.getElem?_eq_getElem (by omega)⟩
      have hkm := List.mem_of_getElem? hkey
      have hkt := keyS_take hkey
      have hkt2 := keyS_take_le ks (i + 1)
      have hkc := k_cnt (k := 4) (n := n) (s := s) (l := l) hkm
      have htl := txt_len (r6 key hkm)
      have hWr : Wr (acc ++ txt key) x := ⟨hwx, hrx, by simp only [List.length_append]; omega⟩
      have hfin : WP (g_codec_newWriter_4_s_j3 i (.mk 4 n s l ks) ((acc ++ txt key) ++ enc x)) (Rnd (fun (p : Nat × List UInt8) => p.1 ≤ l.length ∧ p.2 = b ++ 100 :: encD ks (l.take p.1)) (fun p => l.length - p.1) (l.length - i) fun r => r = .inl (b ++ enc (.mk 4 n s l ks))) := by
        unfold g_codec_newWriter_4_s_j3
        refine WP.ckI (by omega) (WP.ret ⟨⟨by simp only; omega, ?_⟩, by simp only; omega⟩)
        simp only
        rw [encD_take hx hkey, g2]; simp
      have hkx := wf_k hwx
      have hgk : ∀ {Q : _ → Prop} {kk : List UInt8 → Option ((Nat × List UInt8) ⊕ (List UInt8 ⊕ Unit))}, WP (kk key) Q → WP (gn ks i kk) Q := fun h => by rw [gn_some hkey]; exact h
      have htx := text_eq (b := acc) (s := key) (by omega) (by omega)
      refine WP.iteE (fun h => by omega) (fun _ => WP.iteE (fun h => hgk (WP.bdP htx ?_)) (fun _ => WP.iteE (fun h => hgk (WP.bdP htx ?_)) (fun _ => WP.iteE (fun h => hgk (WP.bdP htx ?_)) (fun _ => WP.ck (by omega) (hgk (WP.bdP htx ?_))))))
      · refine WP.bdP (w1_eq h ?_ (by have := hWr.2.2; omega)) hfin
        cases x with
        | mk k' n' s' l' ks' => simp only [rng] at hrx; exact hrx.2.1
      · refine WP.bdP (w2_eq h ?_ (by have := hWr.2.2; omega)) hfin
        cases x with
        | mk k' n' s' l' ks' => have := s_cnt k' n' s' l' ks'; simp only [Val.s]; omega
      · exact WP.bdP (h3 x hxm _ h hWr) hfin
      · exact WP.bdP (h4 x hxm _ (by omega) hWr) hfin
    · have e : i = l.length := by omega
      have hkt2 := keyS_take_le ks i
      rw [e, List.take_length] at g2 hlen
      rw [e] at hkt2
      show WP (g_codec_newWriter_4_s_j1 acc) fun r => r = .inl (b ++ enc (.mk 4 n s l ks))
      unfold g_codec_newWriter_4_s_j1
      refine WP.ck (by simp; omega) (WP.ret ?_)
      rw [g2, henc]; simp
theorem writer_eq : ∀ (fu : Nat) (v : Val) (b : List UInt8), hgt v ≤ fu → Wr b v → (v.k = 3 → (g_writer fu).1 b v = some (.inl (b ++ enc v))) ∧ (v.k = 4 → (g_writer fu).2 b v = some (.inl (b ++ enc v)))
  | 0, .mk k n s l ks, b, h, _ => by simp [hgt] at h
  | fu + 1, .mk k n s l ks, b, h, hw => by
    simp only [hgt, Nat.add_le_add_iff_right, hgtL_le] at h
    refine ⟨fun hk => WP.eq (w3_s hk hw (fun x hx b h3 hwx => (writer_eq fu x b (h x hx) hwx).1 h3) fun x hx b h4 hwx => (writer_eq fu x b (h x hx) hwx).2 h4),
      fun hk => WP.eq (w4_s hk hw (fun x hx b h3 hwx => (writer_eq fu x b (h x hx) hwx).1 h3) fun x hx b h4 hwx => (writer_eq fu x b (h x hx) hwx).2 h4)⟩
end Go.Proofs.YtimalbkjflfdoaaDoor

set_option maxRecDepth 100000
namespace Go.Proofs.YtimalbkjflfdoaaDoor
open Go.DL
theorem rencode_s {rc : Val → Option (List UInt8)} {v : Val} (hw : Wr [] v) (hrc : ∀ x ∈ v.l, Wr [] x → rc x = some (enc x)) : WP (g_ref02_encode_s rc v) fun r => r = enc v := by
  obtain ⟨w1, w2, w3⟩ := hw
  have hk := wf_k w1
  cases v with
  | mk k n s l ks =>
    simp only [Val.k] at hk
    simp only [Val.l] at hrc
    simp only [rng, rngL_iff] at w2
    obtain ⟨r1, r2, r3, r4, r5, r6, r7⟩ := w2
    have hs := s_cnt k n s l ks
    simp only [List.length_nil, Nat.zero_add] at w3
    unfold g_ref02_encode_s
    refine WP.iteE (fun (h : k = 1) => ?_) (fun (n1 : ¬ k = 1) => WP.iteE (fun (h : k = 2) => ?_) (fun (n2 : ¬ k = 2) => ?_))
    · subst h
      have := Lib.itoa_length_le n r2.1 r2.2
      simp only [Val.n]
      refine WP.bd (decimal_eq r2) (WP.ck (by simp; omega) (WP.ck (by simp; omega) (WP.ck (by simp; omega) (WP.ret ?_))))
      simp [enc]
    · subst h
      refine WP.bd (rtext_eq (s := s) (by omega)) (WP.ret ?_)
      simp [enc]
    have hwl : ∀ x ∈ l, wf x = true := by
      have : wfL l = true := by
        have := w1; simp only [wf] at this
        rcases (show k = 3 ∨ k = 4 by omega) with rfl | rfl <;> simp (config := { decide := true }) at this <;> exact this.2
      exact wfL_iff.1 this
    have hc : 1 + ks.length + keyS ks + cntL l ≤ cnt (.mk k n s l ks) := by simp only [cnt, keyS]; omega
    unfold g_ref02_encode_s_j1
    have main : ∀ (hd : UInt8) (body : Nat → List UInt8), (∀ i, i ≤ l.length → (body i).length ≤ 300 * (ks.length + keyS ks + cntL (l.take i))) → body 0 = [] →
        (∀ i x acc, l[i]? = some x → acc = hd :: body i → WP (g_ref02_encode_s_l3 (.mk k n s l ks) rc (i, acc)) fun z => z = .inl (i + 1, hd :: body (i + 1))) →
        enc (.mk k n s l ks) = hd :: (body l.length ++ [101]) → WP (loopO (g_ref02_encode_s_l3 (.mk k n s l ks) rc) (0, [hd])) fun r => r = enc (.mk k n s l ks) := by
      intro hd body hb1 hb0 hstep hfin
      refine WP.loop (fun (p : Nat × List UInt8) => p.1 ≤ l.length ∧ p.2 = hd :: body p.1) (fun p => l.length - p.1) ?_ ⟨by simp, by simp [hb0]⟩
      rintro ⟨i, acc⟩ ⟨g1, g2⟩
      simp only at g1 g2
      by_cases hi : i < l.length
      · refine (hstep i l[i] acc (List.getElem?_eq_getElem hi) g2).mono ?_
        rintro z rfl
        exact ⟨⟨by simp only; omega, rfl⟩, by simp only; omega⟩
      · have e : i = l.length := by omega
        simp only [g_ref02_encode_s_l3, Val.l]
        refine WP.iteD (fun h => by omega) (fun _ => WP.up ?_)
        show WP (g_ref02_encode_s_j2 acc) fun r => r = enc (.mk k n s l ks)
        unfold g_ref02_encode_s_j2
        have := hb1 i g1
        have h9 := cntL_take_le l i
        refine WP.ck (by rw [g2]; simp only [List.length_cons, List.length_nil]; omega) (WP.ret ?_)
        rw [g2, hfin, e]; simp
    refine WP.iteE (fun (h : k = 4) => ?_) (fun (n4 : ¬ k = 4) => ?_)
    · subst h
      have hkl : ks.length = l.length := by
        have := w1; simp only [wf] at this
        simp (config := { decide := true }) at this
        exact this.1.1.2
      have hbl : ∀ i, i ≤ l.length → (encD ks (l.take i)).length ≤ 300 * (ks.length + keyS ks + cntL (l.take i)) := fun i hi => by
        have := encD_len ks (l.take i) r6 (fun x hx => enc_len (r7 x (List.mem_of_mem_take hx)) (hwl x (List.mem_of_mem_take hx))) (by simp; omega)
        simpa only [keyS] using this
      refine main 100 (fun i => encD ks (l.take i)) hbl (by simp [encD]) (fun i x acc hx hacc => ?_) (by simp [enc])
      have hi := (List.getElem?_eq_some_iff.1 hx).1
      have hxm := List.mem_of_getElem? hx
      have hct := cntL_take hx
      have hct2 := cntL_take_le l (i + 1)
      have hlen := hbl i (by omega)
      have hlen2 := hbl (i + 1) (by omega)
      obtain ⟨key, hkey⟩ : ∃ key, ks[i]? = some key := ⟨ks[i]'(by omega), List.getElem?_eq_getElem (by omega)⟩
      have hkm := List.mem_of_getElem? hkey
      have hkc := k_cnt (k := 4) (n := n) (s := s) (l := l) hkm
      have htl := txt_len (r6 key hkm)
      rw [encD_take hx hkey] at hlen2
      simp only [List.length_append] at hlen2
      simp only [g_ref02_encode_s_l3, Val.l]
      refine WP.iteD (fun _ => ?_) (fun h => by omega)
      refine WP.iteE (fun _ => ?_) (fun h => absurd rfl h)
      refine WP.gn (show i < ks.length by omega) fun key' (hk' : ks[i]? = some key') => ?_
      rw [hkey] at hk'; cases hk'
      refine WP.bd (rtext_eq (by omega)) (WP.ck (by rw [hacc]; simp only [List.length_cons]; omega) ?_)
      unfold g_ref02_encode_s_j4
      refine WP.gn hi fun x' (hx' : l[i]? = some x') => ?_
      rw [hx] at hx'; cases hx'
      refine WP.bd (hrc x hxm ⟨hwl x hxm, r7 x hxm, by simp only [List.length_nil]; omega⟩) (WP.ck (by rw [hacc]; simp only [List.length_cons, List.length_append]; omega) (WP.ckI (by omega) (WP.ret ?_)))
      rw [encD_take hx hkey, hacc]; simp
    · have hk3 : k = 3 := by omega
      subst hk3
      have hbl : ∀ i, i ≤ l.length → (encL (l.take i)).length ≤ 300 * (ks.length + keyS ks + cntL (l.take i)) := fun i hi => by
        have := encL_len (l.take i) (fun x hx => enc_len (r7 x (List.mem_of_mem_take hx)) (hwl x (List.mem_of_mem_take hx)))
        omega
      refine main 108 (fun i => encL (l.take i)) hbl (by simp [encL]) (fun i x acc hx hacc => ?_) (by simp [enc])
      have hi := (List.getElem?_eq_some_iff.1 hx).1
      have hxm := List.mem_of_getElem? hx
      have hct := cntL_take hx
      have hct2 := cntL_take_le l (i + 1)
      have hlen := hbl i (by omega)
      have hlen2 := hbl (i + 1) (by omega)
      rw [encL_take hx] at hlen2
      simp only [List.length_append] at hlen2
      simp only [g_ref02_encode_s_l3, Val.l]
      refine WP.iteD (fun _ => ?_) (fun h => by omega)
      refine WP.iteE (fun h => absurd h n4) (fun _ => ?_)
      unfold g_ref02_encode_s_j4
      refine WP.gn hi fun x' (hx' : l[i]? = some x') => ?_
      rw [hx] at hx'; cases hx'
      refine WP.bd (hrc x hxm ⟨hwl x hxm, r7 x hxm, by simp only [List.length_nil]; omega⟩) (WP.ck (by rw [hacc]; simp only [List.length_cons]; omega) (WP.ckI (by omega) (WP.ret ?_)))
      rw [encL_take hx, hacc]; simp
theorem rencode_eq : ∀ (fu : Nat) (v : Val), hgt v ≤ fu → Wr [] v → g_ref02_encode fu v = some (enc v)
  | 0, .mk k n s l ks, h, _ => by simp [hgt] at h
  | fu + 1, .mk k n s l ks, h, hw => by
    simp only [hgt, Nat.add_le_add_iff_right, hgtL_le] at h
    exact WP.eq (rencode_s hw fun x hx hwx => rencode_eq fu x (h x hx) hwx)
def Ok (v : Val) : Prop := rng v ∧ hgt v ≤ 60 ∧ cnt v ≤ 50000000000
def encR (v : Val) : List UInt8 × Int := if chk v = 0 then (enc v, 0) else ([], chk v)
theorem chk0 {v : Val} : chk v = 0 ↔ wf v = true ∧ dep v ≤ 16 := by
  unfold chk
  by_cases hw : wf v = true
  · rw [if_pos hw]
    by_cases hd : 16 < dep v
    · rw [if_pos hd]; simp [hw]; omega
    · rw [if_neg hd]; simp [hw]; omega
  · rw [if_neg hw]; simp [hw]
theorem Encode_eq {v : Val} (h : Ok v) : g_codec_Encode v = some (.inl (encR v)) := by
  obtain ⟨h1, h2, h3⟩ := h
  refine WP.eq ?_
  unfold g_codec_Encode encR
  refine WP.bd (check_eq h2 h1) (WP.iteN (fun h => WP.ret (by rw [if_neg h])) (fun h => ?_))
  rw [if_pos h]
  have hw := (chk0.1 h).1
  have hk := wf_k hw
  have hWr : Wr [] v := ⟨hw, h1, by simp only [List.length_nil]; omega⟩
  have hwe := writer_eq 60 v [] h2 hWr
  refine WP.iteE (fun h => by omega) (fun _ => WP.iteE (fun hk1 => ?_) (fun _ => WP.iteE (fun hk2 => ?_) (fun _ => WP.iteE (fun hk3 => ?_) (fun _ => WP.ck (by omega) ?_))))
  · refine WP.bdP (w1_eq hk1 ?_ (by simp)) (WP.ret rfl)
    cases v with
    | mk k n s l ks => simp only [rng] at h1; exact h1.2.1
  · refine WP.bdP (w2_eq hk2 ?_ (by simp)) (WP.ret rfl)
    cases v with
    | mk k n s l ks => have := s_cnt k n s l ks; simp only [Val.s]; omega
  · exact WP.bdP (hwe.1 hk3) (WP.ret rfl)
  · exact WP.bdP (hwe.2 (by omega)) (WP.ret rfl)
end Go.Proofs.YtimalbkjflfdoaaDoor

set_option maxRecDepth 100000
namespace Go.Proofs.YtimalbkjflfdoaaDoor
open Go.DL
theorem parseM_append (M : Nat) : ∀ (a b : List UInt8) (acc x : Nat), Lib.parseUintM M acc a = .ok x → Lib.parseUintM M acc (a ++ b) = Lib.parseUintM M x b
  | [], b, acc, x, h => by
    simp only [Lib.parseUintM] at h
    injection h with h
    subst h; rfl
  | c :: a, b, acc, x, h => by
    simp only [Lib.parseUintM, List.cons_append] at h ⊢
    split at h
    · rename_i h1
      rw [if_pos h1]
      split at h
      · cases h
      · rename_i h2
        rw [if_neg h2]
        split at h
        · cases h
        · rename_i h3
          rw [if_neg h3]
          exact parseM_append M a b _ x h
    · cases h
theorem digit_toNat {d : Nat} (h : d < 10) : (UInt8.ofNat (48 + d)).toNat = 48 + d := by
  rw [UInt8.toNat_ofNat']; omega
theorem parseM_digits : ∀ (u : Nat), u ≤ 18446744073709551615 → Lib.parseUintM 18446744073709551615 0 (Lib.decDigits u) = .ok u := by
  intro u
  induction u using Nat.strongRecOn with
  | _ u ih =>
    intro hu
    by_cases h : u < 10
    · rw [Lib.decDigits_one h]
      simp only [Lib.parseUintM, digit_toNat h]
      rw [if_pos (by omega), if_neg (by omega), if_neg (by omega)]
      simp
    · rw [Lib.decDigits.eq_1 u, dif_neg h, parseM_append _ _ _ _ _ (ih (u / 10) (by omega) (by omega))]
      simp only [Lib.parseUintM, digit_toNat (show u % 10 < 10 by omega)]
      rw [if_pos (by omega), if_neg (by omega), if_neg (by omega)]
      congr 1; omega
theorem decDigits_ne (u : Nat) : Lib.decDigits u ≠ [] := fun h => by
  have := Lib.decDigits_length u
  rw [h] at this
  have := Lib.nDigits_pos u
  simp at *; omega
theorem decDigits_mem : ∀ (u : Nat), ∀ c ∈ Lib.decDigits u, 48 ≤ c.toNat ∧ c.toNat ≤ 57 := by
  intro u
  induction u using Nat.strongRecOn with
  | _ u ih =>
    intro c hc
    by_cases h : u < 10
    · rw [Lib.decDigits_one h] at hc
      simp only [List.mem_singleton] at hc
      subst hc
      rw [digit_toNat h]; omega
    · rw [Lib.decDigits.eq_1 u, dif_neg h, List.mem_append] at hc
      rcases hc with hc | hc
      · exact ih (u / 10) (by omega) c hc
      · simp only [List.mem_singleton] at hc
        subst hc
        rw [digit_toNat (by omega)]; omega
theorem decDigits_cons (u : Nat) : ∃ c r, Lib.decDigits u = c :: r ∧ 48 ≤ c.toNat ∧ c.toNat ≤ 57 := by
  cases h : Lib.decDigits u with
  | nil => exact absurd h (decDigits_ne u)
  | cons c r => exact ⟨c, r, rfl, decDigits_mem u c (by rw [h]; exact List.mem_cons_self)⟩
theorem parseU_digits {u : Nat} (hu : u ≤ 18446744073709551615) : Lib.parseUintB 64 (Lib.decDigits u) = .ok u := by
  unfold Lib.parseUintB
  rw [if_neg (decDigits_ne u)]
  exact parseM_digits u hu
theorem parse_itoa {n : Int} (h : i64 n) : parseO (Lib.itoa n) = some n := by
  obtain ⟨h1, h2⟩ := h
  unfold parseO Lib.itoa
  by_cases hn : n < 0
  · rw [if_pos hn, Lib.parseIntB_minus, parseU_digits (by omega)]
    simp only [Lib.signedC]
    rw [if_neg (by omega)]
    simp only [Option.some.injEq]; omega
  · rw [if_neg hn]
    obtain ⟨c, r, hc, hc1, hc2⟩ := decDigits_cons n.toNat
    rw [hc, Lib.parseIntB_plain 64 c r (by omega) (by omega), ← hc, parseU_digits (by omega)]
    simp only [Lib.signlessC]
    rw [if_neg (by omega)]
    simp only [Option.some.injEq]; omega
theorem parse_i64 {s : List UInt8} {n : Int} (h : parseO s = some n) : i64 n := by
  unfold parseO at h
  split at h
  · rename_i v hv
    cases h
    cases s with
    | nil => simp [Lib.parseIntB] at hv
    | cons c r =>
      by_cases h43 : c.toNat = 43
      · have : c = 43 := UInt8.toNat_inj.1 h43
        subst this
        rw [Lib.parseIntB_plus] at hv
        cases hp : Lib.parseUintB 64 r <;> rw [hp] at hv <;> simp only [Lib.signlessC] at hv
        · split at hv
          · cases hv
          · injection hv with hv; exact ⟨by omega, by omega⟩
        all_goals cases hv
      · by_cases h45 : c.toNat = 45
        · have : c = 45 := UInt8.toNat_inj.1 h45
          subst this
          rw [Lib.parseIntB_minus] at hv
          cases hp : Lib.parseUintB 64 r <;> rw [hp] at hv <;> simp only [Lib.signedC] at hv
          · split at hv
            · cases hv
            · injection hv with hv; exact ⟨by omega, by omega⟩
          all_goals cases hv
        · rw [Lib.parseIntB_plain 64 c r h43 h45] at hv
          cases hp : Lib.parseUintB 64 (c :: r) <;> rw [hp] at hv <;> simp only [Lib.signlessC] at hv
          · split at hv
            · cases hv
            · injection hv with hv; exact ⟨by omega, by omega⟩
          all_goals cases hv
  · cases h
theorem itoa_inj {m n : Int} (hm : i64 m) (hn : i64 n) (h : Lib.itoa m = Lib.itoa n) : m = n := by
  have h1 := parse_itoa hm
  rw [h, parse_itoa hn] at h1
  exact (Option.some.inj h1).symm
theorem itoa_mem {n : Int} {c : UInt8} (h : c ∈ Lib.itoa n) : c.toNat = 45 ∨ 48 ≤ c.toNat ∧ c.toNat ≤ 57 := by
  unfold Lib.itoa at h
  split at h
  · rcases List.mem_cons.1 h with rfl | h
    · exact .inl rfl
    · exact .inr (decDigits_mem _ c h)
  · exact .inr (decDigits_mem _ c h)
theorem itoa_len20 {n : Int} (h : i64 n) : (Lib.itoa n).length ≤ 20 := by
  obtain ⟨h1, h2⟩ := h
  have key : ∀ k u, u < 10 ^ (k + 1) → Lib.nDigits u ≤ k + 1 := by
    intro k
    induction k with
    | zero => intro u h; rw [Lib.nDigits_small (by simpa using h)]; omega
    | succ k ih =>
      intro u h
      by_cases hs : u < 10
      · rw [Lib.nDigits_small hs]; omega
      · rw [Lib.nDigits_big hs]
        have := ih (u / 10) (by rw [Nat.pow_succ] at h; omega)
        omega
  have k19 : ∀ u, u < 10000000000000000000 → (Lib.decDigits u).length ≤ 19 := fun u hu => by rw [Lib.decDigits_length]; exact key 18 u hu
  unfold Lib.itoa
  split
  · have := k19 n.natAbs (by omega)
    simp only [List.length_cons]; omega
  · have := k19 n.toNat (by omega)
    omega
theorem split_at {c : UInt8} : ∀ {a a' b b' : List UInt8}, c ∉ a → c ∉ a' → a ++ c :: b = a' ++ c :: b' → a = a' ∧ b = b'
  | [], [], b, b', _, _, h => by simpa using h
  | [], x :: a', b, b', _, h2, h => by
    simp only [List.nil_append, List.cons_append, List.cons.injEq] at h
    exact absurd (h.1 ▸ List.mem_cons_self) h2
  | x :: a, [], b, b', h1, _, h => by
    simp only [List.nil_append, List.cons_append, List.cons.injEq] at h
    exact absurd (h.1 ▸ List.mem_cons_self) h1
  | x :: a, y :: a', b, b', h1, h2, h => by
    simp only [List.cons_append, List.cons.injEq] at h
    obtain ⟨rfl, h⟩ := h
    obtain ⟨rfl, rfl⟩ := split_at (fun hh => h1 (List.mem_cons_of_mem _ hh)) (fun hh => h2 (List.mem_cons_of_mem _ hh)) h
    exact ⟨rfl, rfl⟩
theorem idxOf_split {c : UInt8} {a b : List UInt8} (h : c ∉ a) : (a ++ c :: b).idxOf c = a.length := by
  induction a with
  | nil => simp
  | cons x a ih =>
    have hne : x ≠ c := fun e => h (e ▸ List.mem_cons_self)
    rw [List.cons_append, List.idxOf_cons, beq_eq_false_iff_ne.2 hne, ih (fun hh => h (List.mem_cons_of_mem _ hh))]
    rfl
theorem itoa_split {c : UInt8} (hc : 58 ≤ c.toNat) {m n : Int} {a b : List UInt8} (hm : i64 m) (hn : i64 n) (h : Lib.itoa m ++ c :: a = Lib.itoa n ++ c :: b) : m = n ∧ a = b := by
  have no : ∀ n : Int, c ∉ Lib.itoa n := fun n hh => by have := itoa_mem hh; omega
  obtain ⟨h1, h2⟩ := split_at (no m) (no n) h
  exact ⟨itoa_inj hm hn h1, h2⟩
theorem txt_itoa (s : List UInt8) : txt s = Lib.itoa ((s.length : Nat) : Int) ++ 58 :: s := by rw [Lib.itoa_nonneg]; rfl
theorem txt_split {s t a b : List UInt8} (hs : s.length ≤ 140737488355328) (ht : t.length ≤ 140737488355328) (h : txt s ++ a = txt t ++ b) : s = t ∧ a = b := by
  rw [txt_itoa, txt_itoa] at h
  simp only [List.append_assoc, List.cons_append] at h
  obtain ⟨h1, h2⟩ := itoa_split (c := 58) (by decide) ⟨by omega, by omega⟩ ⟨by omega, by omega⟩ h
  have hl : s.length = t.length := by omega
  exact List.append_inj h2 hl
theorem txt_first (s : List UInt8) : ∃ c r, txt s = c :: r ∧ 48 ≤ c.toNat ∧ c.toNat ≤ 57 := by
  obtain ⟨c, r, h, h1⟩ := decDigits_cons s.length
  exact ⟨c, r ++ 58 :: s, by rw [txt, h]; rfl, h1⟩
theorem enc_first {v : Val} (hw : wf v = true) : ∃ c r, enc v = c :: r ∧ ((v.k = 1 ∧ c = 105) ∨ (v.k = 2 ∧ 48 ≤ c.toNat ∧ c.toNat ≤ 57) ∨ (v.k = 3 ∧ c = 108) ∨ (v.k = 4 ∧ c = 100)) := by
  have hk := wf_k hw
  cases v with
  | mk k n s l ks =>
    simp only [Val.k] at hk ⊢
    rcases hk with rfl | rfl | rfl | rfl
    · exact ⟨105, Lib.itoa n ++ [101], by simp [enc], .inl ⟨rfl, rfl⟩⟩
    · obtain ⟨c, r, h, h1⟩ := txt_first s
      exact ⟨c, r, by simp [enc, h], .inr (.inl ⟨rfl, h1⟩)⟩
    · exact ⟨108, encL l ++ [101], by simp [enc], .inr (.inr (.inl ⟨rfl, rfl⟩))⟩
    · exact ⟨100, encD ks l ++ [101], by simp [enc], .inr (.inr (.inr ⟨rfl, rfl⟩))⟩
theorem first_ne {v : Val} (hw : wf v = true) {a b : List UInt8} (h : enc v ++ a = 101 :: b) : False := by
  obtain ⟨c, r, he, hc⟩ := enc_first hw
  rw [he, List.cons_append, List.cons.injEq] at h
  obtain ⟨rfl, _⟩ := h
  rcases hc with ⟨_, h⟩ | ⟨_, h, h2⟩ | ⟨_, h⟩ | ⟨_, h⟩
  · exact absurd h (by decide)
  · simp at h2
  · exact absurd h (by decide)
  · exact absurd h (by decide)
theorem txt_ne {s a b : List UInt8} (h : txt s ++ a = 101 :: b) : False := by
  obtain ⟨c, r, he, h1, h2⟩ := txt_first s
  rw [he, List.cons_append, List.cons.injEq] at h
  obtain ⟨rfl, _⟩ := h
  simp at h2
theorem encL_split : ∀ {l m : List Val} {a b : List UInt8}, (∀ x ∈ l, ∀ (y : Val) (a b : List UInt8), y ∈ m → enc x ++ a = enc y ++ b → x = y ∧ a = b) → (∀ x ∈ l, wf x = true) → (∀ x ∈ m, wf x = true) → encL l ++ 101 :: a = encL m ++ 101 :: b → l = m ∧ a = b
  | [], [], a, b, _, _, _, h => by simpa [encL] using h
  | [], y :: m, a, b, _, _, h3, h => by
    simp only [encL, List.nil_append, List.append_assoc] at h
    exact (first_ne (h3 y List.mem_cons_self) h.symm).elim
  | x :: l, [], a, b, _, h2, _, h => by
    simp only [encL, List.nil_append, List.append_assoc] at h
    exact (first_ne (h2 x List.mem_cons_self) h).elim
  | x :: l, y :: m, a, b, h1, h2, h3, h => by
    simp only [encL, List.append_assoc] at h
    obtain ⟨rfl, h4⟩ := h1 x List.mem_cons_self y _ _ List.mem_cons_self h
    obtain ⟨rfl, rfl⟩ := encL_split (fun p hp q a b hq => h1 p (List.mem_cons_of_mem _ hp) q a b (List.mem_cons_of_mem _ hq)) (fun p hp => h2 p (List.mem_cons_of_mem _ hp)) (fun p hp => h3 p (List.mem_cons_of_mem _ hp)) h4
    exact ⟨rfl, rfl⟩
theorem encD_split : ∀ {ks js : List (List UInt8)} {l m : List Val} {a b : List UInt8}, (∀ x ∈ l, ∀ (y : Val) (a b : List UInt8), y ∈ m → enc x ++ a = enc y ++ b → x = y ∧ a = b) → (∀ x ∈ l, wf x = true) → (∀ x ∈ m, wf x = true) → ks.length = l.length → js.length = m.length →
    (∀ k ∈ ks, k.length ≤ 140737488355328) → (∀ k ∈ js, k.length ≤ 140737488355328) → encD ks l ++ 101 :: a = encD js m ++ 101 :: b → ks = js ∧ l = m ∧ a = b
  | [], [], [], [], a, b, _, _, _, _, _, _, _, h => by simpa [encD] using h
  | ks, js, [], y :: m, a, b, _, _, h3, _, _, _, _, h => by
    simp only [encD, List.nil_append, List.append_assoc] at h
    exact (txt_ne h.symm).elim
  | ks, js, x :: l, [], a, b, _, h2, _, _, _, _, _, h => by
    simp only [encD, List.nil_append, List.append_assoc] at h
    exact (txt_ne h).elim
  | k :: ks, j :: js, x :: l, y :: m, a, b, h1, h2, h3, h4, h5, h6, h7, h => by
    simp only [encD, List.append_assoc, List.headD_cons, List.tail_cons] at h
    obtain ⟨e1, h8⟩ := txt_split (h6 k List.mem_cons_self) (h7 j List.mem_cons_self) h
    obtain ⟨e2, h9⟩ := h1 x List.mem_cons_self y _ _ List.mem_cons_self h8
    subst e1; subst e2
    obtain ⟨rfl, rfl, rfl⟩ := encD_split (fun p hp q a b hq => h1 p (List.mem_cons_of_mem _ hp) q a b (List.mem_cons_of_mem _ hq)) (fun p hp => h2 p (List.mem_cons_of_mem _ hp)) (fun p hp => h3 p (List.mem_cons_of_mem _ hp)) (by simpa using h4) (by simpa using h5) (fun q hq => h6 q (List.mem_cons_of_mem _ hq)) (fun q hq => h7 q (List.mem_cons_of_mem _ hq)) h9
    exact ⟨rfl, rfl, rfl⟩
  | [], _ :: _, [], [], _, _, _, _, _, _, h5, _, _, _ => by simp at h5
  | _ :: _, _, [], [], _, _, _, _, _, h4, _, _, _, _ => by simp at h4
  | [], _, _ :: _, _ :: _, _, _, _, _, _, h4, _, _, _, _ => by simp at h4
  | _ :: _, [], _ :: _, _ :: _, _, _, _, _, _, _, h5, _, _, _ => by simp at h5
theorem wf3 {n : Int} {s : List UInt8} {l : List Val} {ks : List (List UInt8)} (h : wf (.mk 3 n s l ks) = true) : n = 0 ∧ s = [] ∧ ks = [] ∧ ∀ x ∈ l, wf x = true := by
  simp (config := { decide := true }) [wf, wfL_iff] at h
  exact ⟨h.1.1.1, h.1.1.2, h.1.2, h.2⟩
theorem wf4 {n : Int} {s : List UInt8} {l : List Val} {ks : List (List UInt8)} (h : wf (.mk 4 n s l ks) = true) : n = 0 ∧ s = [] ∧ ks.length = l.length ∧ incr ks = true ∧ ∀ x ∈ l, wf x = true := by
  simp (config := { decide := true }) [wf, wfL_iff] at h
  exact ⟨h.1.1.1.1, h.1.1.1.2, h.1.1.2, h.1.2, h.2⟩
theorem wf1 {n : Int} {s : List UInt8} {l : List Val} {ks : List (List UInt8)} (h : wf (.mk 1 n s l ks) = true) : s = [] ∧ l = [] ∧ ks = [] := by
  simp (config := { decide := true }) [wf] at h
  exact ⟨h.1.1, h.1.2, h.2⟩
theorem wf2 {n : Int} {s : List UInt8} {l : List Val} {ks : List (List UInt8)} (h : wf (.mk 2 n s l ks) = true) : n = 0 ∧ l = [] ∧ ks = [] := by
  simp (config := { decide := true }) [wf] at h
  exact ⟨h.1.1, h.1.2, h.2⟩
theorem enc_split {v : Val} : ∀ {w : Val} {a b : List UInt8}, rng v → rng w → wf v = true → wf w = true → enc v ++ a = enc w ++ b → v = w ∧ a = b := by
  induction v using Val.ind with
  | h k n s l ks ih =>
    intro w a b hv hw h1 h2 h
    obtain ⟨c, r, e1, c1⟩ := enc_first h1
    obtain ⟨c', r', e2, c2⟩ := enc_first h2
    have hcc : c = c' := by
      rw [e1, e2, List.cons_append, List.cons_append, List.cons.injEq] at h
      exact h.1
    subst hcc
    cases w with
    | mk k' n' s' l' ks' =>
      simp only [Val.k] at c1 c2
      simp only [rng, rngL_iff] at hv hw
      obtain ⟨r1, r2, r3, r4, r5, r6, r7⟩ := hv
      obtain ⟨q1, q2, q3, q4, q5, q6, q7⟩ := hw
      rcases c1 with ⟨rfl, rfl⟩ | ⟨rfl, d1, d2⟩ | ⟨rfl, rfl⟩ | ⟨rfl, rfl⟩
      · have hk : k' = 1 := by
          rcases c2 with ⟨h, _⟩ | ⟨_, _, h⟩ | ⟨_, h⟩ | ⟨_, h⟩
          · exact h
          · simp at h
          · exact absurd h (by decide)
          · exact absurd h (by decide)
        subst hk
        obtain ⟨rfl, rfl, rfl⟩ := wf1 h1
        obtain ⟨rfl, rfl, rfl⟩ := wf1 h2
        simp only [enc, if_true, List.cons_append, List.cons.injEq, true_and, List.append_assoc, List.nil_append] at h
        obtain ⟨rfl, rfl⟩ := itoa_split (c := 101) (by decide) r2 q2 h
        exact ⟨rfl, rfl⟩
      · have hk : k' = 2 := by
          rcases c2 with ⟨_, h⟩ | ⟨h, _⟩ | ⟨_, h⟩ | ⟨_, h⟩
          · subst h; simp at d2
          · exact h
          · subst h; simp at d2
          · subst h; simp at d2
        subst hk
        obtain ⟨rfl, rfl, rfl⟩ := wf2 h1
        obtain ⟨rfl, rfl, rfl⟩ := wf2 h2
        simp (config := { decide := true }) only [enc, if_true, if_false] at h
        obtain ⟨rfl, rfl⟩ := txt_split r3 q3 h
        exact ⟨rfl, rfl⟩
      · have hk : k' = 3 := by
          rcases c2 with ⟨_, h⟩ | ⟨_, _, h⟩ | ⟨h, _⟩ | ⟨_, h⟩
          · exact absurd h (by decide)
          · simp at h
          · exact h
          · exact absurd h (by decide)
        subst hk
        obtain ⟨rfl, rfl, rfl, w1⟩ := wf3 h1
        obtain ⟨rfl, rfl, rfl, w2⟩ := wf3 h2
        simp (config := { decide := true }) only [enc, if_true, if_false, List.cons_append, List.cons.injEq, true_and, List.append_assoc, List.nil_append] at h
        obtain ⟨rfl, rfl⟩ := encL_split (fun x hx y a b hy he => ih x hx (r7 x hx) (q7 y hy) (w1 x hx) (w2 y hy) he) w1 w2 h
        exact ⟨rfl, rfl⟩
      · have hk : k' = 4 := by
          rcases c2 with ⟨_, h⟩ | ⟨_, _, h⟩ | ⟨_, h⟩ | ⟨h, _⟩
          · exact absurd h (by decide)
          · simp at h
          · exact absurd h (by decide)
          · exact h
        subst hk
        obtain ⟨rfl, rfl, g1, _, w1⟩ := wf4 h1
        obtain ⟨rfl, rfl, g2, _, w2⟩ := wf4 h2
        simp (config := { decide := true }) only [enc, if_true, if_false, List.cons_append, List.cons.injEq, true_and, List.append_assoc, List.nil_append] at h
        obtain ⟨rfl, rfl, rfl⟩ := encD_split (fun x hx y a b hy he => ih x hx (r7 x hx) (q7 y hy) (w1 x hx) (w2 y hy) he) w1 w2 g1 g2 r6 q6 h
        exact ⟨rfl, rfl⟩
end Go.Proofs.YtimalbkjflfdoaaDoor
