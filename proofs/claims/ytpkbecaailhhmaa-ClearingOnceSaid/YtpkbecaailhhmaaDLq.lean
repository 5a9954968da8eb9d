/-
  The data-level framework, part q: states written sparsely, and the rules as a program types them. Generic in the program; no condition.
-/
import Derived.Test.YtpkbecaailhhmaaDLp
set_option linter.unusedVariables false
set_option linter.unusedSimpArgs false
namespace Go.DL
open Go.RowKit

abbrev J : LV := .one .junk
abbrev dt (d : D) : LV := .one (.dat d)
abbrev I (n : Int) : D := .int .i64 n
abbrev B (b : Bool) : D := .bool b
abbrev dI (n : Int) : LV := .one (.dat (.int .i64 n))
abbrev dB (b : Bool) : LV := .one (.dat (.bool b))
abbrev cI (n : Int) : C := .dat (.int .i64 n)
abbrev cB (b : Bool) : C := .dat (.bool b)
abbrev nilS : D := .con (.slice none 0 0)

/-- A state of n slots, of which those that are listed hold something. -/
def mk (n : Nat) (l : List (Nat × LV)) (bx : List (Nat × Box)) : DS := ⟨(List.range n).map fun i => (l.lookup i).getD J, bx⟩

def maskL (live : List Nat) : List LV → Nat → List LV
  | [], _ => []
  | l :: ls, i => (match live.contains i with | true => l | false => J) :: maskL live ls (i + 1)

def DS.prune (live dead : List Nat) (s : DS) : DS := dead.foldl (fun s i => s.drop i) ⟨maskL live s.sl 0, s.bx⟩

theorem maskL_length (live : List Nat) : ∀ (ls : List LV) (i : Nat), (maskL live ls i).length = ls.length
  | [], _ => rfl
  | _ :: ls, i => by simp [maskL, maskL_length live ls]

theorem maskL_get (live : List Nat) : ∀ (ls : List LV) (i t : Nat) (l : LV), (maskL live ls i)[t]? = some l → l = J ∨ ls[t]? = some l
  | [], _, t, l, h => by simp [maskL] at h
  | x :: ls, i, 0, l, h => by
    simp only [maskL, List.getElem?_cons_zero, Option.some.injEq] at h
    split at h
    · exact .inr (by simpa using h)
    · exact .inl h.symm
  | x :: ls, i, t + 1, l, h => by simpa using maskL_get live ls (i + 1) t l (by simpa [maskL] using h)

theorem DS.le_prune (s : DS) (live dead : List Nat) : s.Le (s.prune live dead) := by
  have h1 : s.Le ⟨maskL live s.sl 0, s.bx⟩ := by
    intro E M w a h
    refine ⟨M, h.defers, by rw [h.size]; exact (maskL_length _ _ _).symm, fun t l hl => ?_, h.boxes⟩
    rcases maskL_get _ _ _ _ _ hl with rfl | hl'
    · trivial
    · exact h.slots t l hl'
  unfold DS.prune
  generalize (⟨maskL live s.sl 0, s.bx⟩ : DS) = s1 at h1 ⊢
  induction dead generalizing s1 with
  | nil => exact h1
  | cons i l ih => exact ih _ (h1.trans (DS.le_drop s1 i))

theorem DS.le_of_eq {s s' : DS} (h : s = s') : s.Le s' := h ▸ DS.Le.refl s

/-- Freezing boxes, one after the other, and then forgetting. -/
def DS.ice (ids : List Nat) (s : DS) : DS := ids.foldl (fun s i => s.freeze i) s

theorem DS.le_ice (s : DS) (ids : List Nat) : s.Le (s.ice ids) := by
  unfold DS.ice
  have : ∀ (ids : List Nat) (s1 : DS), s.Le s1 → s.Le (ids.foldl (fun s i => s.freeze i) s1) := by
    intro ids
    induction ids with
    | nil => exact fun _ h => h
    | cons i l ih => exact fun s1 h => ih _ (h.trans (DS.le_freeze s1 i))
  exact this ids s (DS.Le.refl s)

section
variable {P : Program} {base id : Nat} {l : List Oper} {Q : DX → DS → Prop} {s : DS}

/-- The way through a region, with what is kept behind it. -/
def way (P : Program) (base : Nat) (l : List Oper) (hs : List Hint) (live dead : List Nat) (s : DS) : Option (Prop × DS) :=
  (dexec P base l.toArray l hs s).map fun r => (r.1, r.2.prune live dead)

def wayD (P : Program) (base : Nat) (l : List Oper) (n : Nat) (hs : List Hint) (live dead : List Nat) (s : DS) : Option (Prop × DS) :=
  (dexecDraw P base l n hs s).map fun r => (r.1, r.2.prune live dead)

def QLe (Q : DX → DS → Prop) : Prop := ∀ x s s', s.Le s' → Q x s' → Q x s

theorem T_reg (hs : List Hint) (live dead : List Nat) (s' : DS) (side : Prop) (h : way P base l hs live dead s = some (side, s')) (hside : side) {y : Code} (hq : T P base y Q s') : T P base (.seq (.region id l.toArray false) y) Q s := by
  unfold way at h
  simp only [Option.map_eq_some_iff, Prod.mk.injEq] at h
  obtain ⟨⟨sd, s1⟩, h1, rfl, rfl⟩ := h
  exact T_seq (T_region hs s1 sd h1 hside (T_le (DS.le_prune s1 live dead) hq))

theorem T_regD (n : Nat) (hs : List Hint) (live dead : List Nat) (s' : DS) (side : Prop) (hm : P.follows .mixedOrders = true) (hok : drawOk l.toArray n = true) (h : wayD P base l n hs live dead s = some (side, s')) (hside : side) {y : Code} (hq : T P base y Q s') : T P base (.seq (.region id l.toArray true) y) Q s := by
  unfold wayD at h
  simp only [Option.map_eq_some_iff, Prod.mk.injEq] at h
  obtain ⟨⟨sd, s1⟩, h1, rfl, rfl⟩ := h
  exact T_seq (T_draw n hs s1 sd hm hok h1 hside (T_le (DS.le_prune s1 live dead) hq))

/-- The last region of a piece. -/
theorem T_regE (hs : List Hint) (s' : DS) (side : Prop) (h : dexec P base l.toArray l hs s = some (side, s')) (hside : side) (hq : Q .normal s') : T P base (.region id l.toArray false) Q s := T_region hs s' side h hside hq

theorem T_regDE (n : Nat) (hs : List Hint) (s' : DS) (side : Prop) (hm : P.follows .mixedOrders = true) (hok : drawOk l.toArray n = true) (h : dexecDraw P base l n hs s = some (side, s')) (hside : side) (hq : Q .normal s') : T P base (.region id l.toArray true) Q s := T_draw n hs s' side hm hok h hside hq

/-- The state is written otherwise, some boxes frozen, and the rest forgotten. -/
theorem T_turn {c : Code} (ice live dead : List Nat) (s' : DS) (h : (s.ice ice).prune live dead = s') (hq : T P base c Q s') : T P base c Q s :=
  T_le ((DS.le_ice s ice).trans ((DS.le_prune _ live dead).trans (DS.le_of_eq h))) hq

theorem le_turn (ice live dead : List Nat) {s s' : DS} (h : (s.ice ice).prune live dead = s') : s.Le s' :=
  (DS.le_ice s ice).trans ((DS.le_prune _ live dead).trans (DS.le_of_eq h))

theorem ret_here {fn : Func} {d : D} (ls : List LV) (h : dres P s fn.results.toList = some ls) (hf : resFit s.bx ls d) : retPost P fn d .ret s := ⟨ls, h, hf⟩
theorem end_here {fn : Func} {d : D} (ls : List LV) (h : dres P s fn.results.toList = some ls) (hf : resFit s.bx ls d) : retPost P fn d .normal s := ⟨ls, h, hf⟩
end

theorem not_f {b : Bool} (h : (!b) = false) : b = true := by cases b <;> simp_all
theorem not_t {b : Bool} (h : (!b) = true) : b = false := by cases b <;> simp_all
theorem bne_f {x y : Int} (h : (x != y) = false) : x = y := by simpa using h

theorem i64_wrap {x : Int} (h1 : -9223372036854775808 ≤ x) (h2 : x ≤ 9223372036854775807) : IntKind.i64.wrap x = x := by
  rw [IntKind.wrap_i64]; omega

theorem nat_succ {k : Nat} {j : Nat} (h : k + j ≤ 9223372036854775807) : IntKind.i64.wrap ((k : Int) + (j : Int)) = ((k + j : Nat) : Int) := by
  rw [i64_wrap (by omega) (by omega)]; omega
end Go.DL
