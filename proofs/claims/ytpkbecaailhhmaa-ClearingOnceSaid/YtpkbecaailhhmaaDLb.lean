/-
  The data-level framework, part b: triples over code, and the rules for control flow. Generic in the program; no condition.
-/
import Derived.Test.YtpkbecaailhhmaaDLa
set_option linter.unusedVariables false
set_option linter.unusedSimpArgs false
namespace Go.DL
open Go.RowKit

/-- How a piece of code is left. -/
inductive DX where
  | normal
  | exit (id : Nat)
  | ret
  | panic (d : D)

def XRel (w : World) (A : Nat → Prop) : Exit → DX → Prop
  | .normal, .normal => True
  | .exit i, .exit j => i = j
  | .ret, .ret => True
  | .panic ch, .panic d => ∃ v, ch = [{ v := v, recovered := false }] ∧ RelD w A d v
  | _, _ => False

def Lift (E : Env) (Q : DX → DS → Prop) (e : Exit) (a : Act) (w : World) : Prop :=
  ∃ x s M, XRel w (Av E.A0 M s.bx) e x ∧ Q x s ∧ St E M w a s

def T (P : Program) (base : Nat) (c : Code) (Q : DX → DS → Prop) (s : DS) : Prop :=
  ∀ (E : Env) (M : BMap) (w : World) (a : Act), E.base = base → St E M w a s → c.wp P (Lift E Q) a w

/-- The same of the operations of a region that are still to come. -/
def TL (P : Program) (base : Nat) (ops : Array Oper) (l : List Oper) (Q : DX → DS → Prop) (s : DS) : Prop :=
  ∀ (E : Env) (M : BMap) (w : World) (a : Act), E.base = base → St E M w a s → wpList P ops (Lift E Q) l a w

def DX.andThen (N : DS → Prop) (Q : DX → DS → Prop) : DX → DS → Prop
  | .normal, s => N s
  | x, s => Q x s

def DX.blk (id : Nat) (Q : DX → DS → Prop) : DX → DS → Prop
  | .exit j, s => if j = id then Q .normal s else Q (.exit j) s
  | x, s => Q x s

/-- Every concrete state that is of form s is of form s', too. -/
def DS.Le (s s' : DS) : Prop := ∀ (E : Env) (M : BMap) (w : World) (a : Act), St E M w a s → ∃ M', St E M' w a s'

theorem DS.Le.refl (s : DS) : s.Le s := fun _ M _ _ h => ⟨M, h⟩
theorem DS.Le.trans {a b c : DS} (h : a.Le b) (h' : b.Le c) : a.Le c := fun E M w x hs => let ⟨M', h1⟩ := h E M w x hs; h' E M' w x h1

section
variable {P : Program} {base : Nat} {Q Q' : DX → DS → Prop} {s s' : DS}

theorem Lift.mono {E : Env} (h : ∀ x s, Q x s → Q' x s) {e : Exit} {a : Act} {w : World} (hl : Lift E Q e a w) : Lift E Q' e a w :=
  let ⟨x, s, M, h1, h2, h3⟩ := hl; ⟨x, s, M, h1, h _ _ h2, h3⟩

theorem T_mono {c : Code} (h : ∀ x s, Q x s → Q' x s) (ht : T P base c Q s) : T P base c Q' s :=
  fun E M w a hb hs => wp_mono (ht E M w a hb hs) fun _ _ _ => Lift.mono h

theorem T_le {c : Code} (hle : s.Le s') (h : T P base c Q s') : T P base c Q s :=
  fun E M w a hb hs => let ⟨M', hs'⟩ := hle E M w a hs; h E M' w a hb hs'

theorem TL_le {ops : Array Oper} {l : List Oper} (hle : s.Le s') (h : TL P base ops l Q s') : TL P base ops l Q s :=
  fun E M w a hb hs => let ⟨M', hs'⟩ := hle E M w a hs; h E M' w a hb hs'

theorem T_skip (h : Q .normal s) : T P base .skip Q s :=
  fun E M w a _ hs => wp_skip ⟨.normal, s, M, trivial, h, hs⟩

theorem T_label {l : Nat} (h : Q .normal s) : T P base (.label l) Q s :=
  fun E M w a _ hs => wp_label ⟨.normal, s, M, trivial, h, hs⟩

theorem T_exit {id : Nat} (h : Q (.exit id) s) : T P base (.exit id) Q s :=
  fun E M w a _ hs => wp_exit ⟨.exit id, s, M, rfl, h, hs⟩

theorem T_ret (h : Q .ret s) : T P base .ret Q s :=
  fun E M w a _ hs => wp_ret ⟨.ret, s, M, trivial, h, hs⟩

theorem T_seq {x y : Code} (h : T P base x (DX.andThen (T P base y Q) Q) s) : T P base (.seq x y) Q s := by
  intro E M w a hb hs
  refine wp_seq (wp_mono (h E M w a hb hs) ?_)
  rintro e a' w' ⟨dx, s', M', hx, hq, hst⟩
  cases dx with
  | normal =>
    cases e <;> simp only [XRel] at hx
    exact hq E M' w' a' hb hst
  | exit id =>
    cases e <;> simp only [XRel] at hx
    exact ⟨.exit id, s', M', hx, hq, hst⟩
  | ret =>
    cases e <;> simp only [XRel] at hx
    exact ⟨.ret, s', M', trivial, hq, hst⟩
  | panic d =>
    cases e <;> simp only [XRel] at hx
    exact ⟨.panic d, s', M', hx, hq, hst⟩

theorem T_block {id : Nat} {c : Code} (h : T P base c (DX.blk id Q) s) : T P base (.block id c) Q s := by
  intro E M w a hb hs
  refine wp_block (wp_mono (h E M w a hb hs) ?_)
  rintro e a' w' ⟨dx, s', M', hx, hq, hst⟩
  cases dx with
  | normal =>
    cases e <;> simp only [XRel] at hx
    exact ⟨.normal, s', M', trivial, hq, hst⟩
  | exit j =>
    cases e <;> simp only [XRel] at hx
    subst hx
    simp only [DX.blk] at hq
    simp only [Exit.inBlock]
    split <;> rename_i hj
    · rw [if_pos hj] at hq
      exact ⟨.normal, s', M', trivial, hq, hst⟩
    · rw [if_neg hj] at hq
      exact ⟨.exit _, s', M', rfl, hq, hst⟩
  | ret =>
    cases e <;> simp only [XRel] at hx
    exact ⟨.ret, s', M', trivial, hq, hst⟩
  | panic d =>
    cases e <;> simp only [XRel] at hx
    exact ⟨.panic d, s', M', hx, hq, hst⟩

/-- The invariant is a family of states. -/
theorem T_loop {c : Code} {α : Type} (st : α → DS) (I : α → Prop) (μ : α → Nat) (x0 : α) (h0 : I x0)
    (h : ∀ x, I x → T P base c (DX.andThen (fun s' => ∃ y, I y ∧ μ y < μ x ∧ s'.Le (st y)) Q) (st x)) : T P base (.loop c) Q (st x0) := by
  intro E M w a hb hs b k cs
  have key : ∀ n x, μ x = n → I x → ∀ M w a, St E M w a (st x) →
      ∃ e a' w', Lift E Q e a' w' ∧ Arrives P (lone (b.at a (.code c :: .inLoop c :: k)) cs w) b k cs e a' w' := by
    intro n
    induction n using Nat.strongRecOn with
    | _ n ih =>
      intro x hn hx M w a hst
      obtain ⟨e, a1, w1, hq, harr⟩ := h x hx E M w a hb hst b (.inLoop c :: k) cs
      obtain ⟨dx, s', M', hx', hq, hst'⟩ := hq
      cases dx with
      | normal =>
        cases e <;> simp only [XRel] at hx'
        obtain ⟨y, hy, hlt, hle⟩ := hq
        obtain ⟨M'', hst''⟩ := hle E M' w1 a1 hst'
        obtain ⟨e2, a2, w2, hq2, harr2⟩ := ih (μ y) (hn ▸ hlt) y rfl hy M'' w1 a1 hst''
        exact ⟨e2, a2, w2, hq2, .of_steps (Steps.trans harr (.one step_inLoop)) harr2⟩
      | exit id =>
        cases e <;> simp only [XRel] at hx'
        subst hx'
        exact ⟨.exit _, a1, w1, ⟨.exit _, s', M', rfl, hq, hst'⟩, .pass (x := .inLoop c) rfl (fun _ _ => .inl (by simp)) harr⟩
      | ret =>
        cases e <;> simp only [XRel] at hx'
        exact ⟨.ret, a1, w1, ⟨.ret, s', M', trivial, hq, hst'⟩, .pass (x := .inLoop c) rfl (fun _ _ => .inl (by simp)) harr⟩
      | panic d =>
        cases e <;> simp only [XRel] at hx'
        exact ⟨.panic _, a1, w1, ⟨.panic d, s', M', hx', hq, hst'⟩, .pass (x := .inLoop c) rfl (fun _ _ => .inl (by simp)) harr⟩
  obtain ⟨e, a', w', hq, harr⟩ := key _ x0 rfl h0 M w a hs
  exact ⟨e, a', w', hq, .of_steps (.one step_loop) harr⟩
end
end Go.DL
