/-
  The data-level framework, part h: one function for every operation that makes a value. Generic in the program; no condition.
-/
import Derived.Test.YtpkbecaailhhmaaDLg
set_option linter.unusedVariables false
set_option linter.unusedSimpArgs false
namespace Go.DL
open Go.RowKit

def vLoad (P : Program) (bx : List (Nat × Box)) (t : TypeId) (a : LV) (h : Option D) : Option (Prop × LV) :=
  match a with
  | .one (.ref id off) => match bx.lookup id with
    | some (.var cs) => (loadC P t cs off).map fun l => (True, l)
    | _ => none
  | .one (.rref id i off) => match bx.lookup id, h with
    | some (.row _ _ es), some e => (loadC P t (e.cells.map .dat) off).map fun l => (es[i]? = some e, l)
    | _, _ => none
  | .one (.dat (.ptr cs)) => (loadC P t (cs.map .dat) 0).map fun l => (True, l)
  | _ => none

def vNilCheck (x : LV) : Option LV :=
  match x with
  | .one (.ref id off) => some (.one (.ref id off))
  | .one (.rref id i off) => some (.one (.rref id i off))
  | .one (.dat (.ptr cs)) => some (.one (.dat (.ptr cs)))
  | .one (.fn f caps) => some (.one (.fn f caps))
  | .one (.dat (.fn f caps)) => some (.one (.dat (.fn f caps)))
  | _ => none

/-- A result that is data may be named by the hint. -/
def rehint (h : Option D) (r : Prop × LV) : Prop × LV :=
  match h, r.2 with
  | some d', .one (.dat d) => (r.1 ∧ d = d', .one (.dat d'))
  | _, _ => r

theorem rehint_sound {h : Option D} {r : Prop × LV} {side : Prop} {lv : LV} (he : rehint h r = (side, lv)) (hs : side) : r.1 ∧ lv = r.2 := by
  unfold rehint at he
  obtain ⟨p, l⟩ := r
  split at he
  · rename_i d' d hd
    simp only [Prod.mk.injEq] at he hd
    obtain ⟨h1, rfl⟩ := he
    rw [← h1] at hs
    obtain ⟨h2, rfl⟩ := hs
    exact ⟨h2, hd.symm⟩
  · cases he
    exact ⟨hs, rfl⟩

def vCall (P : Program) (ρ : Operand → LV) (bx : List (Nat × Box)) (h : Option D) (c : Call) : Option (Prop × LV) :=
  match c.callee with
  | .builtin .len => match c.args.toList, c.argTypes.toList with
    | [x], [t] => (vLen P bx t (ρ x)).map fun l => rehint h (True, l)
    | _, _ => none
  | .builtin .max => match c.args.toList with
    | [x, y] => (vMinMax true (ρ x) (ρ y)).map fun l => (True, l)
    | _ => none
  | .builtin .min => match c.args.toList with
    | [x, y] => (vMinMax false (ρ x) (ρ y)).map fun l => (True, l)
    | _ => none
  | .value f => match ρ f with
    | .one (.fn g caps) => match capsD caps with
      | some cd => vCallF bx P g cd (c.args.toList.map ρ) h
      | none => none
    | .one (.dat (.fn g cd)) => vCallF bx P g cd (c.args.toList.map ρ) h
    | _ => none
  | _ => none

/-- What an operation that makes a value yields: a side condition, and the value. 'dr': in a region that draws its order. -/
def pval (P : Program) (ρ : Operand → LV) (bx : List (Nat × Box)) (h : Option D) (o : Oper) : Option (Prop × LV) :=
  match o.op with
  | .move x => some (True, ρ x)
  | .assign x => some (True, ρ x)
  | .pick c a b => match ρ c, h with
    | .one (.dat (.bool t)), some (.bool true) => some (t = true, ρ a)
    | .one (.dat (.bool t)), some (.bool false) => some (t = false, ρ b)
    | _, _ => none
  | .load t a => vLoad P bx t (ρ a) h
  | .nilCheck x => (vNilCheck (ρ x)).map fun l => (True, l)
  | .binOp op t x y _ => vBin P op t (ρ x) (ρ y) h
  | .unOp op _ x => vUn op (ρ x) h
  | .convert s d x => vConvert P s d (ρ x) h
  | .fieldAddr s x f => (vFieldAddr P s (ρ x) f).map fun l => (True, l)
  | .field t x f => (vField P t (ρ x) f).map fun l => (True, l)
  | .indexAddr t x i => vIndexAddr P t bx (ρ x) (ρ i) h
  | .index t x i => vIndex P t (ρ x) (ρ i) h
  | .slice t x lo hi mx => (vSlice P t (ρ x) (lo.map ρ) (hi.map ρ) (mx.map ρ)).map (rehint h)
  | .build t parts => (vBuild P bx t (parts.toList.map fun p => (p.1, ρ p.2))).map fun l => (True, l)
  | .buildSlice t len parts => vBuildSlice P bx t len (parts.toList.map fun p => (p.1, ρ p.2))
  | .extract x i => (vExtract (ρ x) i).map fun l => (True, l)
  | .makeFunc fn first caps => match fn, first.toList with
    | .func f, [] => (capsC (caps.toList.map ρ)).map fun c => (True, .one (.fn f c))
    | _, _ => none
  | .call c => vCall P ρ bx h c
  | _ => none

section
variable {P : Program} {w : World} {A : Nat → Prop} {M : BMap}

theorem vLoad_sound {bx : List (Nat × Box)} (hb : ∀ id b, (id, b) ∈ bx → BoxOK w A M id b) {t : TypeId} {a lv : LV} {h : Option D} {side : Prop} {u : Value} (hv : vLoad P bx t a h = some (side, lv)) (hs : side) (ha : LV.rel w A M a u) :
    ∃ r, (Instr.loadAt t u).run P w = .ok r w ∧ LV.rel w A M lv r := by
  unfold vLoad at hv
  split at hv
  · rename_i id off
    split at hv
    · rename_i cs hl
      simp only [Option.map_eq_some_iff, Prod.mk.injEq] at hv
      obtain ⟨l, h1, _, rfl⟩ := hv
      simp only [LV.rel, C.rel] at ha
      subst ha
      obtain ⟨arr, T, hg, hc⟩ := hb id _ (lookup_mem hl)
      have := loadC_sound (P := P) (w := w) (A := A) (M := M) (b := M.blk id) (o := 0) h1 (fun j c hj => by
        obtain ⟨v, hv, hr⟩ := hc.2 j c hj
        exact ⟨v, by rw [cell_of_row w _ _ arr T (0, 0) hg, Nat.zero_add]; exact hv, hr⟩)
      simpa only [Nat.zero_add] using this
    · cases hv
  · rename_i id i off
    split at hv
    · rename_i e' sz es e hl
      simp only [Option.map_eq_some_iff, Prod.mk.injEq] at hv
      obtain ⟨l, h1, h2, rfl⟩ := hv
      rw [← h2] at hs
      simp only [LV.rel, C.rel] at ha
      subst ha
      obtain ⟨xs, ho, huni, hM, hc, hblk⟩ := hb id _ (lookup_mem hl)
      rw [hM]
      refine loadC_sound (P := P) (w := w) (A := A) (M := M) (b := M.blk id) (o := i * sz) h1 (fun j c hj => ?_)
      simp only [List.getElem?_map, Option.map_eq_some_iff] at hj
      obtain ⟨d, hd, rfl⟩ := hj
      obtain ⟨v, hv, hr⟩ := hc _ _ (flat_get huni hs hd)
      refine ⟨v, ?_, hr⟩
      have hob : (M.rv id).ownBlock = some (M.blk id) := by
        rcases ho.2 with ⟨hrv, h0⟩ | ⟨g, cap, cur, hrv, _⟩
        · have : es = [] := List.eq_nil_of_length_eq_zero h0
          subst this
          simp at hs
        · have := hblk g (by rw [hrv]; rfl)
          subst this
          rw [hrv]; rfl
      have := ho.cells hob _ _ hv
      rwa [Addr.add_mid, Nat.zero_add] at this
    · cases hv
  · rename_i cs
    simp only [Option.map_eq_some_iff, Prod.mk.injEq] at hv
    obtain ⟨l, h1, _, rfl⟩ := hv
    simp only [LV.rel, C.rel] at ha
    obtain ⟨b, off, rfl⟩ := ptr_addr ha
    have := loadC_sound (P := P) (w := w) (A := A) (M := M) (b := b) (o := off) h1 (fun j c hj => by
      simp only [List.getElem?_map, Option.map_eq_some_iff] at hj
      obtain ⟨d, hd, rfl⟩ := hj
      exact ptr_cells ha j d hd)
    simpa only [Nat.add_zero] using this
  · cases hv

theorem vMinMax_sound {m : Bool} {x y lv : LV} {ts : Array TypeId} {ty : TypeId} {u v : Value} (h : vMinMax m x y = some lv) (hx : LV.rel w A M x u) (hy : LV.rel w A M y v) :
    ∃ r, ((if m then Builtin.max_ else Builtin.min_) ts ty #[u, v]).run P w = .ok r w ∧ LV.rel w A M lv r := by
  unfold vMinMax at h
  split at h
  · rename_i k a k' b
    simp only [LV.rel, C.rel] at hx hy
    cases hx; cases hy
    cases m
    · simp only [Option.some.injEq] at h
      subst h
      exact ⟨_, by simpa using run_min_int2 w ts ty k k' a b, RelD.int _ _⟩
    · simp only [Option.some.injEq] at h
      subst h
      exact ⟨_, by simpa using run_max_int2 w ts ty k k' a b, RelD.int _ _⟩
  · cases h

theorem run_builtin {o : Oper} {a : Act} {b : Builtin} {args : Array Operand} {ts : Array TypeId} (ho : o.op = .call { callee := .builtin b, args := args, argTypes := ts }) :
    execOp a.eval o = builtin b ts o.type (args.map fun x => match x with | .const _ => true | _ => false) (args.map a.eval) := by
  simp only [execOp, ho, resolve]
  rfl

theorem vCall_sound {E : Env} {bx : List (Nat × Box)} {o : Oper} {a : Act} {c : Call} {ρ : Operand → LV} {h : Option D} {side : Prop} {lv : LV} (ho : o.op = .call c) (hv : vCall P ρ bx h c = some (side, lv)) (hs : side)
    (hbx : Boxes E M w bx) (hρ : ∀ x ∈ c.operands, LV.rel w (Av E.A0 M bx) M (ρ x) (a.eval x)) : PStep P o a w (Av E.A0 M bx) M lv := by
  obtain ⟨callee, args, ts⟩ := c
  have hargs : ∀ x ∈ args, LV.rel w (Av E.A0 M bx) M (ρ x) (a.eval x) := fun x hx => hρ x (by simp [Call.operands, hx])
  unfold vCall at hv
  simp only at hv
  split at hv
  · split at hv
    · rename_i x t h1 h2
      have e1 : args = #[x] := by rw [← Array.toList_inj]; exact h1
      have e2 : ts = #[t] := by rw [← Array.toList_inj]; exact h2
      subst e1; subst e2
      simp only [Option.map_eq_some_iff] at hv
      obtain ⟨l, h3, hrh⟩ := hv
      obtain ⟨_, rfl⟩ := rehint_sound hrh hs
      obtain ⟨r, h4, h5⟩ := vLen_sound (P := P) (ty := o.type) hbx.ok h3 (hargs x (by simp))
      refine PStep.of_run (v := r) ?_ h5
      rw [run_builtin ho]
      simp [builtin, h4]
    · cases hv
  · split at hv
    · rename_i x y h1
      have e1 : args = #[x, y] := by rw [← Array.toList_inj]; exact h1
      subst e1
      simp only [Option.map_eq_some_iff, Prod.mk.injEq] at hv
      obtain ⟨l, h3, _, rfl⟩ := hv
      obtain ⟨r, h4, h5⟩ := vMinMax_sound (P := P) (ts := ts) (ty := o.type) h3 (hargs x (by simp)) (hargs y (by simp))
      refine PStep.of_run (v := r) ?_ h5
      rw [run_builtin ho]
      simp only [if_true] at h4
      simp [builtin, h4]
    · cases hv
  · split at hv
    · rename_i x y h1
      have e1 : args = #[x, y] := by rw [← Array.toList_inj]; exact h1
      subst e1
      simp only [Option.map_eq_some_iff, Prod.mk.injEq] at hv
      obtain ⟨l, h3, _, rfl⟩ := hv
      obtain ⟨r, h4, h5⟩ := vMinMax_sound (P := P) (ts := ts) (ty := o.type) h3 (hargs x (by simp)) (hargs y (by simp))
      refine PStep.of_run (v := r) ?_ h5
      rw [run_builtin ho]
      simp only [Bool.false_eq_true, if_false] at h4
      simp [builtin, h4]
    · cases hv
  · rename_i fop
    have hf := hρ fop (by simp [Call.operands])
    split at hv
    · rename_i g caps hg
      rw [hg] at hf
      obtain ⟨arr, hfv, hsz, hcap⟩ := hf
      split at hv
      · rename_i cd hcd
        obtain ⟨h1, h2⟩ := capsD_rel caps cd hcd (fun j => arr[j]?) hcap
        exact vCallF_sound (fop := fop) ho hv hs hbx hfv (by omega) h2 hargs
      · cases hv
    · rename_i g cd hg
      rw [hg] at hf
      simp only [LV.rel, C.rel] at hf
      generalize hfe : a.eval fop = fv at hf
      cases hf with
      | fn f cs arr hsz vs hvv hrel => exact vCallF_sound (fop := fop) ho hv hs hbx hfe hsz (fun j c hj => ⟨_, hvv j c hj, hrel j c hj⟩) hargs
    · cases hv
  · cases hv

theorem vNilCheck_val {x lv : LV} {u : Value} (h : vNilCheck x = some lv) (hx : LV.rel w A M x u) : LV.rel w A M lv u ∧ ((∃ a, u = .pointer (some a)) ∨ ∃ f arr, u = .func (.func f) #[] arr) := by
  unfold vNilCheck at h
  split at h <;> (try cases h)
  · exact ⟨hx, .inl ⟨_, hx⟩⟩
  · exact ⟨hx, .inl ⟨_, hx⟩⟩
  · refine ⟨hx, ?_⟩
    simp only [LV.rel, C.rel] at hx
    obtain ⟨b, off, rfl⟩ := ptr_addr hx
    exact .inl ⟨_, rfl⟩
  · refine ⟨hx, ?_⟩
    obtain ⟨arr, rfl, _⟩ := hx
    exact .inr ⟨_, _, rfl⟩
  · refine ⟨hx, ?_⟩
    simp only [LV.rel, C.rel] at hx
    cases hx
    exact .inr ⟨_, _, rfl⟩

theorem pval_sound {E : Env} {bx : List (Nat × Box)} {o : Oper} {a : Act} {ρ : Operand → LV} {h : Option D} {side : Prop} {lv : LV} (hv : pval P ρ bx h o = some (side, lv)) (hs : side)
    (hbx : Boxes E M w bx) (hρ : ∀ x ∈ o.op.operands, LV.rel w (Av E.A0 M bx) M (ρ x) (a.eval x)) : PStep P o a w (Av E.A0 M bx) M lv := by
  obtain ⟨dst, op, type, pos, after, guard⟩ := o
  unfold pval at hv
  cases op <;> simp only [Op.operands] at hρ hv <;> try (cases hv; done)
  case move x =>
    simp only [Option.some.injEq, Prod.mk.injEq] at hv
    obtain ⟨_, rfl⟩ := hv
    exact PStep.of_run (v := a.eval x) (by simp [execOp]) (hρ x (by simp))
  case assign x =>
    simp only [Option.some.injEq, Prod.mk.injEq] at hv
    obtain ⟨_, rfl⟩ := hv
    exact PStep.of_run (v := a.eval x) (by simp [execOp]) (hρ x (by simp))
  case pick c x y =>
    have hc := hρ c (by simp)
    split at hv
    · rename_i t hc1
      rw [hc1] at hc
      simp only [LV.rel, C.rel] at hc
      simp only [Option.some.injEq, Prod.mk.injEq] at hv
      obtain ⟨h1, rfl⟩ := hv
      rw [← h1] at hs
      subst hs
      have hce := relD_bool hc
      exact PStep.of_run (v := a.eval x) (by simp [execOp, hce, asBool]) (hρ x (by simp))
    · rename_i t hc1
      rw [hc1] at hc
      simp only [LV.rel, C.rel] at hc
      simp only [Option.some.injEq, Prod.mk.injEq] at hv
      obtain ⟨h1, rfl⟩ := hv
      rw [← h1] at hs
      subst hs
      have hce := relD_bool hc
      exact PStep.of_run (v := a.eval y) (by simp [execOp, hce, asBool]) (hρ y (by simp))
    · cases hv
  case load t x =>
    obtain ⟨r, h1, h2⟩ := vLoad_sound (P := P) hbx.ok hv hs (hρ x (by simp))
    exact PStep.of_run (v := r) (by simp [execOp, h1]) h2
  case nilCheck x =>
    simp only [Option.map_eq_some_iff, Prod.mk.injEq] at hv
    obtain ⟨l, h1, _, rfl⟩ := hv
    obtain ⟨h2, h3⟩ := vNilCheck_val h1 (hρ x (by simp))
    refine PStep.of_run (v := a.eval x) ?_ h2
    rcases h3 with ⟨p, hp⟩ | ⟨f, arr, hp⟩ <;> simp [execOp, hp]
  case binOp op t x y yt =>
    obtain ⟨r, h1, h2⟩ := vBin_sound (P := P) (ox := x) (oy := y) hv hs (hρ x (by simp)) (hρ y (by simp))
    refine PStep.of_run (v := r) ?_ h2
    simp only [execOp, Sem.run_bind] at h1 ⊢
    rw [h1]
    rfl
  case unOp op t x =>
    obtain ⟨r, h1, h2⟩ := vUn_sound (P := P) hv hs (hρ x (by simp))
    exact PStep.of_run (v := r) (by simp [execOp, h1]) h2
  case convert s d x =>
    obtain ⟨r, h1, h2⟩ := vConvert_sound (P := P) hv hs (hρ x (by simp))
    exact PStep.of_run (v := r) (by simp [execOp, h1]) h2
  case makeFunc fn first caps =>
    split at hv
    · rename_i f hf
      have e1 : first = #[] := by rw [← Array.toList_inj]; exact hf
      subst e1
      simp only [Option.map_eq_some_iff, Prod.mk.injEq] at hv
      obtain ⟨cs, h1, _, rfl⟩ := hv
      obtain ⟨h2, h3⟩ := capsC_rel (w := w) (A := Av E.A0 M bx) (M := M) _ cs h1 (fun j => (caps.map a.eval)[j]?) (by
        intro j l hj
        simp only [List.getElem?_map, Option.map_eq_some_iff, Array.getElem?_toList] at hj
        obtain ⟨x, hx, rfl⟩ := hj
        exact ⟨a.eval x, by simp [hx], hρ x (by simp [Array.mem_of_getElem? hx])⟩)
      refine PStep.of_run (v := .func (.func f) #[] (caps.map a.eval)) (by simp [execOp, Instr.makeFunc]) ⟨_, rfl, by simp [h2], h3⟩
    · cases hv
  case slice t x lo hi mx =>
    simp only [Option.map_eq_some_iff] at hv
    obtain ⟨⟨side0, lv0⟩, hv, hrh⟩ := hv
    obtain ⟨hs, rfl⟩ := rehint_sound hrh hs
    obtain ⟨r, h1, h2⟩ := vSlice_sound (P := P) (glo := lo.map a.eval) (ghi := hi.map a.eval) (gmx := mx.map a.eval) hv hs (hρ x (by simp))
      (fun y hy => by cases lo <;> simp at hy ⊢; subst hy; exact hρ _ (by simp)) (fun h => by cases lo <;> simp at h ⊢)
      (fun y hy => by cases hi <;> simp at hy ⊢; subst hy; exact hρ _ (by simp)) (fun h => by cases hi <;> simp at h ⊢)
      (fun y hy => by cases mx <;> simp at hy ⊢; subst hy; exact hρ _ (by simp)) (fun h => by cases mx <;> simp at h ⊢)
    exact PStep.of_run (v := r) (by simp [execOp, h1]) h2
  case fieldAddr s x f =>
    simp only [Option.map_eq_some_iff, Prod.mk.injEq] at hv
    obtain ⟨l, h1, _, rfl⟩ := hv
    obtain ⟨r, h1, h2⟩ := vFieldAddr_sound (P := P) h1 (hρ x (by simp))
    exact PStep.of_run (v := r) (by simp [execOp, h1]) h2
  case field s x f =>
    simp only [Option.map_eq_some_iff, Prod.mk.injEq] at hv
    obtain ⟨l, h1, _, rfl⟩ := hv
    obtain ⟨r, h1, h2⟩ := vField_sound (P := P) h1 (hρ x (by simp))
    exact PStep.of_run (v := r) (by simp [execOp, h1]) h2
  case indexAddr t x i =>
    obtain ⟨r, h1, h2⟩ := vIndexAddr_sound (P := P) hv hs hbx.ok (hρ x (by simp)) (hρ i (by simp))
    exact PStep.of_run (v := r) (by simp [execOp, h1]) h2
  case index t x i =>
    obtain ⟨r, h1, h2⟩ := vIndex_sound (P := P) hv hs (hρ x (by simp)) (hρ i (by simp))
    exact PStep.of_run (v := r) (by simp [execOp, h1]) h2
  case build t parts =>
    simp only [Option.map_eq_some_iff, Prod.mk.injEq] at hv
    obtain ⟨l, h1, _, rfl⟩ := hv
    obtain ⟨r, h1, h2⟩ := vBuild_sound (P := P) hbx.ok h1 (parts.map fun p => (p.1, a.eval p.2)) (by simp) (by
      intro j p hj
      simp only [List.getElem?_map, Option.map_eq_some_iff, Array.getElem?_toList] at hj
      obtain ⟨q, hq, rfl⟩ := hj
      refine ⟨a.eval q.2, by simp [hq], hρ _ ?_⟩
      simp only [List.mem_toArray, List.mem_map, Array.mem_toList_iff]
      exact ⟨q, Array.mem_of_getElem? hq, rfl⟩)
    exact PStep.of_run (v := r) (by simp [execOp, h1]) h2
  case buildSlice t len parts =>
    simp only [vBuildSlice, Option.map_eq_some_iff, Prod.mk.injEq] at hv
    obtain ⟨⟨side', e, sz, ds⟩, h1, h2, rfl⟩ := hv
    simp only at h2
    rw [← h2] at hs
    obtain ⟨arr, h3, h4, h5, h6, _, _, _, h7⟩ := sliceLit_sound (P := P) (A := Av E.A0 M bx) (M := M) hbx.ok h1 hs (parts.map fun p => (p.1, a.eval p.2)) (by simp) (by
      intro j p hj
      simp only [List.getElem?_map, Option.map_eq_some_iff, Array.getElem?_toList] at hj
      obtain ⟨q, hq, rfl⟩ := hj
      refine ⟨a.eval q.2, by simp [hq], hρ _ ?_⟩
      simp only [List.mem_toArray, List.mem_map, Array.mem_toList_iff]
      exact ⟨q, Array.mem_of_getElem? hq, rfl⟩)
    have hbel : Below w.heap.size w (w.alloc (.cells arr e)) := (Below.refl _ _).alloc (Nat.le_refl _) _
    refine PStep.of_alloc (v := .slice (some ⟨w.heap.size, 0, none⟩) len len) (w' := w.alloc (.cells arr e)) (by simp [execOp, h3]) hbel ?_
    simp only [LV.rel, C.rel]
    subst h5
    refine .sl sz ds w.heap.size 0 ds.length (fun j => arr.getD j undef) (Nat.le_refl _) h6 (fun j c hj => ?_) (fun j c hj => ?_)
    · refine ⟨fun hb => Nat.lt_irrefl _ (Av_old hbx hb), ?_⟩
      obtain ⟨v, hv', _⟩ := h7 j c hj
      rw [World.cell?_alloc_new, Nat.zero_add]
      simp [hv']
    · obtain ⟨v, hv', hr⟩ := h7 j c hj
      have : arr.getD j undef = v := by simp [hv']
      rw [this]
      exact hr.mono (Keeps.below hbel)
  case extract x i =>
    simp only [Option.map_eq_some_iff, Prod.mk.injEq] at hv
    obtain ⟨l, h1, _, rfl⟩ := hv
    obtain ⟨r, h1, h2⟩ := vExtract_sound (P := P) h1 (hρ x (by simp))
    exact PStep.of_run (v := r) (by simp [execOp, h1]) h2
  case call c => exact vCall_sound rfl hv hs hbx hρ
end
end Go.DL
