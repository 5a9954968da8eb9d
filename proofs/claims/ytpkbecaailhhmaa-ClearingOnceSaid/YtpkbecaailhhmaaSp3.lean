/-
  The plain functions of chapter 39, third part: steps and runs; how long their data are.
-/
import Derived.Test.YtpkbecaailhhmaaSp2
set_option linter.unusedVariables false
set_option linter.unusedSimpArgs false
namespace Go.Proofs.Ytpkbecaailhhmaa
open Go.DL
def Fits (h : House) : Prop := h.b.length ≤ 140737488355328 ∧ h.h.length ≤ 140737488355328 ∧ ∀ x ∈ h.h, x.ps.length ≤ 140737488355328
def stepOf (h : House) (s : Step) : House × Int :=
  if s.k = 0 then paid h s.c s.a else if s.k = 1 then held h s.t s.c s.ps else settled h s.t s.pd
def runFrom (h : House) : List Step → House
  | [] => h
  | s :: l => runFrom (if (stepOf h s).2 = 0 then (stepOf h s).1 else h) l
def runOf (cl : List Int) (l : List Step) : House × Bool :=
  if newE cl ≠ 0 then (none0, false) else (runFrom ⟨newB cl, []⟩ l, true)
def balancesOf (l : List Step) (a b : Int) : Bool :=
  (runOf [3, 5] l).2 && ((bal 3 (runOf [3, 5] l).1.b).1 == a) && ((bal 5 (runOf [3, 5] l).1.b).1 == b) && (bal 3 (runOf [3, 5] l).1.b).2 && (bal 5 (runOf [3, 5] l).1.b).2

theorem give_len (m : List Pay) (p : Pay) : (give m p).length = m.length := by
  unfold give; split <;> (try split) <;> simp
theorem cred_len (m ps : List Pay) : (cred m ps).length = m.length := by
  induction ps generalizing m with
  | nil => rfl
  | cons p ps ih => rw [cred, ih, give_len]
theorem fits_none : Fits none0 := ⟨by simp [none0], by simp [none0], by simp [none0]⟩
theorem fits_newB {cl : List Int} (h : cl.length ≤ 140737488355328) : Fits ⟨newB cl, []⟩ := by
  refine ⟨?_, by simp, by simp⟩
  unfold newB; split
  · simpa using h
  · simp
theorem fits_paid {h : House} (f : Fits h) (c a : Int) : Fits (paid h c a).1 := by
  unfold paid
  repeat (first | exact fits_none | exact ⟨by rw [cred_len]; exact f.1, f.2.1, f.2.2⟩ | split)
theorem fits_held {h : House} (f : Fits h) {l : List Pay} (hl : l.length ≤ 140737488355328) (t p : Int) : Fits (held h t p l).1 := by
  unfold held
  split
  · exact fits_none
  · rename_i hc
    have hc' : check h = 0 := by simpa using hc
    have := len_of_check hc'
    split
    · exact fits_none
    · split
      · exact fits_none
      · split
        · exact fits_none
        · refine ⟨by rw [cred_len]; exact f.1, by simp only [List.length_append, List.length_take, List.length_drop, List.length_cons, List.length_nil]; omega, fun x hx => ?_⟩
          simp only [List.mem_append, List.mem_singleton] at hx
          rcases hx with (hx | hx) | hx
          · exact f.2.2 x (List.mem_of_mem_take hx)
          · subst hx; exact hl
          · exact f.2.2 x (List.mem_of_mem_drop hx)
theorem fits_settled {h : House} (f : Fits h) (t : Int) (pd : Bool) : Fits (settled h t pd).1 := by
  unfold settled
  split
  · exact fits_none
  · split
    · exact fits_none
    · split
      · exact fits_none
      · rename_i x hx
        have hm := List.mem_of_getElem? hx
        split
        · exact fits_none
        · split
          all_goals
            refine ⟨by rw [cred_len]; exact f.1, by rw [List.length_set]; exact f.2.1, fun y hy => ?_⟩
            rcases List.mem_or_eq_of_mem_set hy with hy | hy
            · exact f.2.2 y hy
            · subst hy; exact f.2.2 x hm
theorem fits_step {h : House} (f : Fits h) {s : Step} (hs : s.ps.length ≤ 140737488355328) : Fits (stepOf h s).1 := by
  unfold stepOf
  split
  · exact fits_paid f _ _
  · split
    · exact fits_held f hs _ _
    · exact fits_settled f _ _
theorem fits_if {h x : House} (f : Fits h) (g : Fits x) (p : Prop) [Decidable p] : Fits (if p then x else h) := by split <;> assumption
theorem fits_runFrom {l : List Step} (hl : ∀ s ∈ l, s.ps.length ≤ 140737488355328) : ∀ {h : House}, Fits h → Fits (runFrom h l) := by
  induction l with
  | nil => exact fun f => f
  | cons s l ih =>
    intro h f
    exact ih (fun s hs => hl s (List.mem_cons_of_mem _ hs)) (fits_if f (fits_step f (hl s List.mem_cons_self)) _)
theorem fits_runOf {cl : List Int} {l : List Step} (hc : cl.length ≤ 140737488355328) (hl : ∀ s ∈ l, s.ps.length ≤ 140737488355328) : Fits (runOf cl l).1 := by
  unfold runOf
  split
  · exact fits_none
  · exact fits_runFrom hl (fits_newB hc)
theorem run_step_ok {h : House} {s : Step} {l : List Step} {r : House} {k : Nat} (iv : runFrom h (l.drop k) = r) (hs : l[k]? = some s) (e : (stepOf h s).2 = 0) : runFrom (stepOf h s).1 (l.drop (k + 1)) = r := by
  rw [← iv, drop_cons hs, runFrom, if_pos e]
theorem run_step_no {h : House} {s : Step} {l : List Step} {r : House} {k : Nat} (iv : runFrom h (l.drop k) = r) (hs : l[k]? = some s) (e : (stepOf h s).2 ≠ 0) : runFrom h (l.drop (k + 1)) = r := by
  rw [← iv, drop_cons hs, runFrom, if_neg e]
end Go.Proofs.Ytpkbecaailhhmaa
