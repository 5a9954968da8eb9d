/-
  The data-level framework, part f: calls, literals and the rest of the operations that make a value; one function for all of them. Generic in the program; no condition.
-/
import Derived.Test.YtpkbecaailhhmaaDLe
set_option linter.unusedVariables false
set_option linter.unusedSimpArgs false
namespace Go.DL
open Go.RowKit
section
variable {P : Program} {w : World} {A : Nat → Prop} {M : BMap}

/-- A function of the program that can be entered. -/
def Callable (P : Program) (f : FuncId) : Prop := ∃ fn, P.funcs[f]? = some fn ∧ (fn.name == "runtime.NumGoroutine") = false ∧ fn.body.isNone = false

/-- Called with arguments that read as ds, function f returns a value that reads as d; memory that was there is as it was. -/
def Ret (P : Program) (f : FuncId) (ds : List D) (d : D) : Prop :=
  Callable P f ∧ ∀ (w : World) (A : Nat → Prop) (vs : Array Value), (∀ b, A b → b < w.heap.size) → vs.size = ds.length →
    (∀ (j : Nat) (c : D), ds[j]? = some c → ∃ u, vs[j]? = some u ∧ RelD w A c u) →
    Calls P f vs w fun e w' => ∃ v, e = .returned v ∧ Below w.heap.size w w' ∧ RelD w' A d v

def ofPart (d : D) : Bool × List C :=
  match d with
  | .agg cs => (true, cs.map .dat)
  | d => (false, [.dat d])

def ofD (d : D) : LV :=
  match d with
  | .agg cs => .agg (cs.map .dat)
  | .tup vs => .tup (vs.map ofPart)
  | d => .one (.dat d)

theorem ofPart_rel {d : D} {v : Value} (h : RelD w A d v) : partRel w A M (ofPart d) v := by
  cases h with
  | agg cs arr hs vs hv hrel =>
    refine ⟨arr, rfl, by simp [hs], fun j c hj => ?_⟩
    simp only [List.getElem?_map, Option.map_eq_some_iff] at hj
    obtain ⟨d, hd, rfl⟩ := hj
    exact ⟨vs j, hv j d hd, hrel j d hd⟩
  | int k n => exact RelD.int k n
  | bool b => exact RelD.bool b
  | str bs => exact RelD.str bs
  | con _ h => exact RelD.con _ h
  | sl sz es b off cap vs h1 h2 h3 h4 => exact RelD.sl sz es b off cap vs h1 h2 h3 h4
  | sl0 sz a cap h => exact RelD.sl0 sz a cap h
  | tup cs arr hs vs hv hrel => exact RelD.tup cs arr hs vs hv hrel
  | ptr cs b off vs h1 h2 => exact RelD.ptr cs b off vs h1 h2
  | fn f cs arr hs vs hv hrel => exact RelD.fn f cs arr hs vs hv hrel

theorem ofD_rel {d : D} {v : Value} (h : RelD w A d v) : LV.rel w A M (ofD d) v := by
  cases h with
  | agg cs arr hs vs hv hrel =>
    refine ⟨arr, rfl, by simp [hs], fun j c hj => ?_⟩
    simp only [List.getElem?_map, Option.map_eq_some_iff] at hj
    obtain ⟨d, hd, rfl⟩ := hj
    exact ⟨vs j, hv j d hd, hrel j d hd⟩
  | tup cs arr hs vs hv hrel =>
    refine ⟨arr, rfl, by simp [hs], fun j c hj => ?_⟩
    simp only [List.getElem?_map, Option.map_eq_some_iff] at hj
    obtain ⟨d, hd, rfl⟩ := hj
    exact ⟨vs j, hv j d hd, ofPart_rel (hrel j d hd)⟩
  | int k n => exact RelD.int k n
  | bool b => exact RelD.bool b
  | str bs => exact RelD.str bs
  | con _ h => exact RelD.con _ h
  | sl sz es b off cap vs h1 h2 h3 h4 => exact RelD.sl sz es b off cap vs h1 h2 h3 h4
  | sl0 sz a cap h => exact RelD.sl0 sz a cap h
  | ptr cs b off vs h1 h2 => exact RelD.ptr cs b off vs h1 h2
  | fn f cs arr hs vs hv hrel => exact RelD.fn f cs arr hs vs hv hrel

/-! ### local values as data -/
def capsD : List (Sum Nat D) → Option (List D)
  | [] => some []
  | .inr d :: l => (capsD l).map (d :: ·)
  | .inl _ :: _ => none

def C.toD (bx : List (Nat × Box)) : C → Option D
  | .dat d => some d
  | .own id => match bx.lookup id with
    | some (.row _ sz es) => some (.sl sz es)
    | _ => none
  | .fn f caps => (capsD caps).map (.fn f ·)
  | _ => none

def C.plain : C → Bool
  | .own _ => false
  | _ => true

def cellsD (bx : List (Nat × Box)) : List C → Option (List D)
  | [] => some []
  | c :: l => match c.toD bx, cellsD bx l with
    | some d, some ds => some (d :: ds)
    | _, _ => none

def LV.toD (bx : List (Nat × Box)) : LV → Option D
  | .one c => c.toD bx
  | .agg cs => (cellsD bx cs).map .agg
  | .tup _ => none

def LV.plain : LV → Bool
  | .one c => c.plain
  | .agg cs => cs.all C.plain
  | .tup _ => true

def argsD (bx : List (Nat × Box)) : List LV → Option (List D)
  | [] => some []
  | c :: l => match c.toD bx, argsD bx l with
    | some d, some ds => some (d :: ds)
    | _, _ => none

theorem capsD_rel : ∀ (caps : List (Sum Nat D)) (ds : List D), capsD caps = some ds → ∀ (f : Nat → Option Value), (∀ (j : Nat) (c : Sum Nat D), caps[j]? = some c → ∃ u, f j = some u ∧ capRel w A M c u) →
    ds.length = caps.length ∧ ∀ (j : Nat) (d : D), ds[j]? = some d → ∃ u, f j = some u ∧ RelD w A d u
  | [], ds, h, f, _ => by simp [capsD] at h; subst h; simp
  | .inl _ :: _, _, h, _, _ => by simp [capsD] at h
  | .inr d :: l, ds, h, f, hf => by
    simp only [capsD, Option.map_eq_some_iff] at h
    obtain ⟨ds', h1, rfl⟩ := h
    obtain ⟨h2, h3⟩ := capsD_rel l ds' h1 (fun j => f (j + 1)) (fun j c hc => hf (j + 1) c (by simpa using hc))
    refine ⟨by simp [h2], fun j e he => ?_⟩
    cases j with
    | zero =>
      simp at he; subst he
      exact hf 0 (.inr d) rfl
    | succ j => exact h3 j e (by simpa using he)

theorem row_rel {id : Nat} {e : TypeId} {sz : Nat} {es : List D} (A' : Nat → Prop) (hA : ∀ b, A' b → A b ∧ (M.rv id).ownBlock ≠ some b) (h : BoxOK w A M id (.row e sz es)) : RelD w A' (.sl sz es) (M.rv id) := by
  obtain ⟨xs, ho, huni, hM, hc, hblk⟩ := h
  rcases ho.2 with ⟨hv, h0⟩ | ⟨g, cap, cur, hrv, _, hg, hnc, _, _, htake⟩
  · have : es = [] := List.eq_nil_of_length_eq_zero h0
    subst this
    rw [hv]
    exact .sl0 _ _ _ (fun _ => rfl)
  · have hgb : g = M.blk id := hblk g (by rw [hrv]; rfl)
    have hxl := ho.1
    have hcell : ∀ (j : Nat) (v : Value), xs[j]? = some v → w.cell? ⟨g, 0 + j, none⟩ = some v := by
      intro j v hj
      rw [Nat.zero_add, cell_of_row w g j cur e (0, 0) hg]
      rw [← htake, List.getElem?_take] at hj
      split at hj
      · simpa using hj
      · cases hj
    have hfin : RelD w A' (.sl sz es) (.slice (some ⟨g, 0, none⟩) es.length cap) := by
      refine .sl sz es g 0 cap (fun j => xs.getD j undef) hnc huni (fun j c hj => ?_) (fun j c hj => ?_)
      · obtain ⟨v, hv, _⟩ := hc j c hj
        refine ⟨fun hb => (hA g hb).2 (by rw [hrv]; rfl), ?_⟩
        rw [hcell j v hv]; simp [List.getD, hv]
      · obtain ⟨v, hv, hr⟩ := hc j c hj
        have : xs.getD j undef = v := by simp [List.getD, hv]
        rw [this]
        exact hr.mono (Keeps.sub (fun b hb => (hA b hb).1))
    rw [hrv]
    exact hfin

theorem C.toD_rel {bx : List (Nat × Box)} {c : C} {d : D} {v : Value} (h : c.toD bx = some d) (hc : C.rel w A M c v) (hb : ∀ id b, (id, b) ∈ bx → BoxOK w A M id b) :
    (c.plain = true → RelD w A d v) ∧ RelD w (fun _ => False) d v := by
  cases c with
  | dat e =>
    simp only [C.toD, Option.some.injEq] at h
    subst h
    exact ⟨fun _ => hc, RelD.mono (Keeps.sub (fun _ hb => hb.elim)) hc⟩
  | own id =>
    refine ⟨fun hp => by simp [C.plain] at hp, ?_⟩
    unfold C.toD at h
    simp only at h
    split at h
    · rename_i e sz es hl
      cases h
      simp only [C.rel] at hc
      subst hc
      exact row_rel _ (fun _ hb => hb.elim) (hb id _ (lookup_mem hl))
    · cases h
  | fn f caps =>
    simp only [C.toD, Option.map_eq_some_iff] at h
    obtain ⟨ds, h1, rfl⟩ := h
    obtain ⟨arr, rfl, h3, h4⟩ := hc
    obtain ⟨h5, h6⟩ := capsD_rel caps ds h1 (fun j => arr[j]?) h4
    have : RelD w A (.fn f ds) (.func (.func f) #[] arr) := by
      refine .fn f ds arr (by omega) (fun j => arr.getD j undef) (fun j c hj => ?_) (fun j c hj => ?_)
      · obtain ⟨u, hu, _⟩ := h6 j c hj
        simp [hu]
      · obtain ⟨u, hu, hr⟩ := h6 j c hj
        simpa [hu] using hr
    exact ⟨fun _ => this, RelD.mono (Keeps.sub (fun _ hb => hb.elim)) this⟩
  | _ => simp [C.toD] at h

theorem cellsD_rel {bx : List (Nat × Box)} (hb : ∀ id b, (id, b) ∈ bx → BoxOK w A M id b) : ∀ (cs : List C) (ds : List D), cellsD bx cs = some ds → ∀ (f : Nat → Option Value), (∀ (j : Nat) (c : C), cs[j]? = some c → ∃ u, f j = some u ∧ C.rel w A M c u) →
    ds.length = cs.length ∧ ∀ (j : Nat) (d : D), ds[j]? = some d → ∃ u, f j = some u ∧ (cs.all C.plain = true → RelD w A d u) ∧ RelD w (fun _ => False) d u
  | [], ds, h, f, _ => by simp [cellsD] at h; subst h; simp
  | c :: l, ds, h, f, hf => by
    unfold cellsD at h
    split at h
    · rename_i d ds' h1 h2
      cases h
      obtain ⟨h3, h4⟩ := cellsD_rel hb l ds' h2 (fun j => f (j + 1)) (fun j c hc => hf (j + 1) c (by simpa using hc))
      refine ⟨by simp [h3], fun j e he => ?_⟩
      cases j with
      | zero =>
        simp at he; subst he
        obtain ⟨u, hu, hr⟩ := hf 0 c rfl
        have := C.toD_rel h1 hr hb
        exact ⟨u, hu, fun hp => this.1 (by simp at hp; exact hp.1), this.2⟩
      | succ j =>
        obtain ⟨u, hu, h5, h6⟩ := h4 j e (by simpa using he)
        exact ⟨u, hu, fun hp => h5 (by simp only [List.all_cons, Bool.and_eq_true] at hp; exact hp.2), h6⟩
    · cases h

theorem LV.toD_rel {bx : List (Nat × Box)} {l : LV} {d : D} {v : Value} (h : l.toD bx = some d) (hc : LV.rel w A M l v) (hb : ∀ id b, (id, b) ∈ bx → BoxOK w A M id b) :
    (l.plain = true → RelD w A d v) ∧ RelD w (fun _ => False) d v := by
  cases l with
  | one c => exact C.toD_rel h hc hb
  | agg cs =>
    simp only [LV.toD, Option.map_eq_some_iff] at h
    obtain ⟨ds, h1, rfl⟩ := h
    obtain ⟨arr, rfl, h2, h3⟩ := hc
    obtain ⟨h4, h5⟩ := cellsD_rel hb cs ds h1 (fun j => arr[j]?) h3
    refine ⟨fun hp => ?_, ?_⟩
    · refine .agg ds arr (by omega) (fun j => arr.getD j undef) (fun j c hj => ?_) (fun j c hj => ?_)
      · obtain ⟨u, hu, _⟩ := h5 j c hj; simp [hu]
      · obtain ⟨u, hu, h6, _⟩ := h5 j c hj; simpa [hu] using h6 hp
    · refine .agg ds arr (by omega) (fun j => arr.getD j undef) (fun j c hj => ?_) (fun j c hj => ?_)
      · obtain ⟨u, hu, _⟩ := h5 j c hj; simp [hu]
      · obtain ⟨u, hu, _, h6⟩ := h5 j c hj; simpa [hu] using h6
  | tup _ => simp [LV.toD] at h

theorem argsD_rel {bx : List (Nat × Box)} (hb : ∀ id b, (id, b) ∈ bx → BoxOK w A M id b) : ∀ (ls : List LV) (ds : List D), argsD bx ls = some ds → ∀ (f : Nat → Option Value), (∀ (j : Nat) (l : LV), ls[j]? = some l → ∃ u, f j = some u ∧ LV.rel w A M l u) →
    ds.length = ls.length ∧ ∀ (j : Nat) (d : D), ds[j]? = some d → ∃ u, f j = some u ∧ (ls.all LV.plain = true → RelD w A d u) ∧ RelD w (fun _ => False) d u
  | [], ds, h, f, _ => by simp [argsD] at h; subst h; simp
  | c :: l, ds, h, f, hf => by
    unfold argsD at h
    split at h
    · rename_i d ds' h1 h2
      cases h
      obtain ⟨h3, h4⟩ := argsD_rel hb l ds' h2 (fun j => f (j + 1)) (fun j c hc => hf (j + 1) c (by simpa using hc))
      refine ⟨by simp [h3], fun j e he => ?_⟩
      cases j with
      | zero =>
        simp at he; subst he
        obtain ⟨u, hu, hr⟩ := hf 0 c rfl
        have := LV.toD_rel h1 hr hb
        exact ⟨u, hu, fun hp => this.1 (by simp at hp; exact hp.1), this.2⟩
      | succ j =>
        obtain ⟨u, hu, h5, h6⟩ := h4 j e (by simpa using he)
        exact ⟨u, hu, fun hp => h5 (by simp only [List.all_cons, Bool.and_eq_true] at hp; exact hp.2), h6⟩
    · cases h

/-! ### calls -/
def vCallF (bx : List (Nat × Box)) (P : Program) (f : FuncId) (caps : List D) (args : List LV) (h : Option D) : Option (Prop × LV) :=
  match argsD bx args, h with
  | some ds, some d => match d.scalar || args.all LV.plain with
    | true => some (Ret P f (ds ++ caps) d, ofD d)
    | false => none
  | _, _ => none

theorem run_call_func {o : Oper} {a : Act} {fop : Operand} {args : Array Operand} {ts : Array TypeId} {f : FuncId} {caps : Array Value} (ho : o.op = .call { callee := .value fop, args := args, argTypes := ts })
    (hf : a.eval fop = .func (.func f) #[] caps) (hc : Callable P f) : (execOp a.eval o).run P w = .ok (.enter f (args.map a.eval ++ caps)) w := by
  obtain ⟨fn, h1, h2, h3⟩ := hc
  have h3' : fn.body.isNone = false := h3
  simp only [execOp, ho, resolve, hf, Deferred.ofValue, Sem.run_bind, Sem.run_pure, Result.andThen_ok, invoke, callFunc, run_program, h1, h2, h3', Bool.false_eq_true, if_false, Array.empty_append]

theorem vCallF_sound {E : Env} {bx : List (Nat × Box)} {o : Oper} {a : Act} {fop : Operand} {args : Array Operand} {ts : Array TypeId} {f : FuncId} {cv : Array Value} {caps : List D} {ρ : Operand → LV} {h : Option D} {side : Prop} {lv : LV}
    (ho : o.op = .call { callee := .value fop, args := args, argTypes := ts }) (hv : vCallF bx P f caps (args.toList.map ρ) h = some (side, lv)) (hs : side)
    (hbx : Boxes E M w bx) (hfv : a.eval fop = .func (.func f) #[] cv) (hcs : cv.size = caps.length) (hcv : ∀ (j : Nat) (c : D), caps[j]? = some c → ∃ u, cv[j]? = some u ∧ RelD w (Av E.A0 M bx) c u)
    (hρ : ∀ x ∈ args, LV.rel w (Av E.A0 M bx) M (ρ x) (a.eval x)) : PStep P o a w (Av E.A0 M bx) M lv := by
  unfold vCallF at hv
  split at hv
  · rename_i ds d h1
    split at hv
    · rename_i hsc
      simp only [Option.some.injEq, Prod.mk.injEq] at hv
      obtain ⟨h2, rfl⟩ := hv
      rw [← h2] at hs
      obtain ⟨hcall, hret⟩ := hs
      obtain ⟨h3, h4⟩ := argsD_rel hbx.ok _ ds h1 (fun j => ((args.map a.eval)[j]?)) (by
        intro j l hj
        simp only [List.getElem?_map, Option.map_eq_some_iff, Array.getElem?_toList] at hj
        obtain ⟨x, hx, rfl⟩ := hj
        exact ⟨a.eval x, by simp [hx], hρ x (Array.mem_of_getElem? hx)⟩)
      simp only [List.length_map, Array.length_toList] at h3
      intro K Q hk
      unfold Oper.wp
      rw [run_call_func ho hfv hcall, Oper.upon_enter]
      have split : ∀ (B : Nat → Prop) (hB : ∀ b, B b → Av E.A0 M bx b) (hd : ∀ (j : Nat) (c : D), ds[j]? = some c → ∃ u, (args.map a.eval)[j]? = some u ∧ RelD w B c u) (j : Nat) (c : D), (ds ++ caps)[j]? = some c → ∃ u, (args.map a.eval ++ cv)[j]? = some u ∧ RelD w B c u := by
        intro B hB hd j c hj
        rw [List.getElem?_append] at hj
        split at hj
        · rename_i hlt
          obtain ⟨u, hu, hr⟩ := hd j c hj
          refine ⟨u, ?_, hr⟩
          rw [Array.getElem?_append_left (by simp; omega)]
          exact hu
        · rename_i hge
          obtain ⟨u, hu, hr⟩ := hcv _ c hj
          refine ⟨u, ?_, hr.mono (Keeps.sub hB)⟩
          rw [Array.getElem?_append_right (by simp; omega)]
          simpa [h3] using hu
      have hsize : (args.map a.eval ++ cv).size = (ds ++ caps).length := by simp [h3, hcs]
      cases hsd : d.scalar with
      | true =>
        refine (hret w (fun _ => False) _ (fun _ hb => hb.elim) hsize (split _ (fun _ hb => hb.elim) (fun j c hj => let ⟨u, hu, _, hr⟩ := h4 j c hj; ⟨u, hu, hr⟩))).mono ?_
        rintro e w' ⟨v, rfl, hbel, hr⟩
        exact hk v w' hbel (ofD_rel (scalar_rel hr hsd))
      | false =>
        have hp : (args.toList.map ρ).all LV.plain = true := by simpa [hsd] using hsc
        refine (hret w (Av E.A0 M bx) _ (fun b hb => Av_old hbx hb) hsize (split _ (fun _ hb => hb) (fun j c hj => let ⟨u, hu, hr, _⟩ := h4 j c hj; ⟨u, hu, hr hp⟩))).mono ?_
        rintro e w' ⟨v, rfl, hbel, hr⟩
        exact hk v w' hbel (ofD_rel hr)
    · cases hv
  · cases hv
end
end Go.DL
