/-
  The data-level framework, part r: regions in parts, with calls that are entered and tests that data do not decide. Generic in the program; no condition.
-/
import Derived.Test.YtpkbecaailhhmaaDLq
set_option linter.unusedVariables false
set_option linter.unusedSimpArgs false
namespace Go.DL
open Go.RowKit

section
variable {P : Program} {base id : Nat} {Q : DX → DS → Prop} {s : DS}

/-- Some operations of a region are run at once; what follows is cut off the list. -/
theorem TL_part {ops : Array Oper} {l : List Oper} (n : Nat) (hs : List Hint) (s' : DS) (side : Prop) (h : dexec P base ops (l.take n) hs s = some (side, s')) (hside : side) {l2 : List Oper} (hl : l.drop n = l2) (hq : TL P base ops l2 Q s') : TL P base ops l Q s := by
  subst hl
  have := TL_append (P := P) (base := base) (Q := Q) (ops := ops) (l.take n) (l.drop n) hs s s' side h hside hq
  rwa [List.take_append_drop] at this

theorem TL_turn {ops : Array Oper} {l : List Oper} (ice live dead : List Nat) (s' : DS) (h : (s.ice ice).prune live dead = s') (hq : TL P base ops l Q s') : TL P base ops l Q s :=
  TL_le ((DS.le_ice s ice).trans ((DS.le_prune _ live dead).trans (DS.le_of_eq h))) hq

theorem T_parts {l : List Oper} (hq : TL P base l.toArray l Q s) : T P base (.region id l.toArray false) Q s :=
  fun E M w a hb hst => wp_region_lit (hq E M w a hb hst)

theorem TL_nilQ {ops : Array Oper} (h : Q .normal s) : TL P base ops [] Q s := TL_all [] s True rfl trivial h

/-- The test of a slice against nil, where its data do not tell: both ways are to be walked; if it is nil it is empty. -/
theorem TL_nil {ops : Array Oper} {o : Oper} {l : List Oper} {t t2 : TypeId} {x : Operand} {sz : Nat} {es : List D}
    (ho : o.op = .binOp .eql t x (.const (.slice none 0 0)) t2) (hg : o.guard = none) (ht : ∃ e, P.underlying t = some (.slice e)) (hx : s.ev x = .one (.dat (.sl sz es)))
    (h : ∀ b : Bool, (b = true → es = []) → TL P base ops l Q (s.put o.dst (dt (.bool b)))) : TL P base ops (o :: l) Q s := by
  intro E M w a hE hst
  refine wpList_plain hg fun K hK => ?_
  have hr := ev_rel hst.size hst.slots x
  rw [hx] at hr
  obtain ⟨e, hu⟩ := ht
  have key : ∃ ad n c, a.eval x = .slice ad n c ∧ (ad.isNone = true → es = []) := by
    generalize a.eval x = v at hr ⊢
    simp only [LV.rel, C.rel] at hr
    cases hr with
    | sl _ _ b off cap vs => exact ⟨_, _, _, rfl, fun h => by simp at h⟩
    | sl0 _ ad c _ => exact ⟨ad, 0, c, rfl, fun _ => rfl⟩
  obtain ⟨ad, n, c, hv, hn⟩ := key
  refine PStep.of_run (lv := dt (.bool ad.isNone)) (v := .bool ad.isNone) (A := Av E.A0 M s.bx) (M := M) ?_ (RelD.bool _) K _ fun v w' hw hl => ?_
  · have e1 : a.eval (.const (.slice none 0 0)) = .slice none 0 0 := rfl
    have hg' := run_eqGuard_plain (P := P) (w := w) .eql t x (.const (.slice none 0 0)) (.slice ad n c) (.slice none 0 0) (by simp) (by simp)
    rw [execOp, ho]
    simp only [hv, e1, Sem.run_bind, hg', Result.andThen_ok]
    simp [binOp, Op.equal, Op.maxDepth, equal_nil 9999 t e hu]
  · exact hK _ _ (h ad.isNone hn E M w' _ hE ((hst.below hw).put o.dst hl))
end
theorem u64_wrap {x : Int} (h1 : 0 ≤ x) (h2 : x ≤ 18446744073709551615) : IntKind.u64.wrap x = x := by
  simp only [IntKind.wrap, IntKind.bits, IntKind.signed]; simp; omega
theorem u32_wrap {x : Int} (h1 : 0 ≤ x) (h2 : x ≤ 4294967295) : IntKind.u32.wrap x = x := by
  simp only [IntKind.wrap, IntKind.bits, IntKind.signed]; simp; omega
theorem u16_wrap {x : Int} (h1 : 0 ≤ x) (h2 : x ≤ 65535) : IntKind.u16.wrap x = x := by
  simp only [IntKind.wrap, IntKind.bits, IntKind.signed]; simp; omega
theorem u8_wrap {x : Int} (h1 : 0 ≤ x) (h2 : x ≤ 255) : IntKind.u8.wrap x = x := by
  simp only [IntKind.wrap, IntKind.bits, IntKind.signed]; simp; omega
theorem i32_wrap {x : Int} (h1 : -2147483648 ≤ x) (h2 : x ≤ 2147483647) : IntKind.i32.wrap x = x := by
  simp only [IntKind.wrap, IntKind.bits, IntKind.signed]; simp; omega
theorem i16_wrap {x : Int} (h1 : -32768 ≤ x) (h2 : x ≤ 32767) : IntKind.i16.wrap x = x := by
  simp only [IntKind.wrap, IntKind.bits, IntKind.signed]; simp; omega
theorem i8_wrap {x : Int} (h1 : -128 ≤ x) (h2 : x ≤ 127) : IntKind.i8.wrap x = x := by
  simp only [IntKind.wrap, IntKind.bits, IntKind.signed]; simp; omega
end Go.DL
