/-
  Plain laws of chapter 39, fourth part: what the walks of the laws of history ask.
-/
import Derived.Test.YtpkbecaailhhmaaPn
set_option linter.unusedVariables false
set_option linter.unusedSimpArgs false
namespace Go.Proofs.Ytpkbecaailhhmaa
open Go.DL
theorem newB_len (cl : List Int) : (newB cl).length ≤ cl.length := by
  unfold newB; split <;> simp
theorem newB_nil {cl : List Int} (h : newE cl ≠ 0) : newB cl = [] := by
  unfold newE at h; unfold newB
  split
  · rename_i hc; rw [if_pos hc] at h; exact absurd rfl h
  · rfl
theorem hist_tot {x : House} {n : Int} {s : Step} (v : V x) (hn : n = totZ x) (e : (stepOf x s).2 = 0) (hk : s.k = 0) : IntKind.i64.wrap (n + s.a) = totZ (stepOf x s).1 := by
  obtain ⟨a, _, b, c⟩ := step_ok v e
  have := v.tot0
  have := v.to
  have := c hk
  rw [wrap_in (by omega) (by omega), b, if_pos hk, hn]
theorem hist_yes {x : House} {n : Int} {s : Step} (v : V x) (hn : n = totZ x) (e : (stepOf x s).2 = 0) (hk : s.k = 0) : total (stepOf x s).1 = IntKind.i64.wrap (n + s.a) := by
  rw [hist_tot v hn e hk, (step_ok v e).1.total]
theorem hist_no {x : House} {n : Int} {s : Step} (v : V x) (hn : n = totZ x) (e : (stepOf x s).2 = 0) (hk : s.k ≠ 0) : total (stepOf x s).1 = n := by
  obtain ⟨a, _, b, _⟩ := step_ok v e
  rw [a.total, b, if_neg hk, hn]; omega
theorem hist_ny {x : House} {n : Int} {s : Step} (v : V x) (hn : n = totZ x) (e : (stepOf x s).2 = 0) (hk : s.k = 0) : IntKind.i64.wrap (n + s.a) = totZ (stepOf x s).1 := hist_tot v hn e hk
theorem hist_nn {x : House} {n : Int} {s : Step} (v : V x) (hn : n = totZ x) (e : (stepOf x s).2 = 0) (hk : s.k ≠ 0) : n = totZ (stepOf x s).1 := by
  rw [(step_ok v e).2.2.1, if_neg hk, hn]; omega
theorem hist_len {x : House} {s : Step} {cl : List Int} (v : V x) (hc : x.b.map (·.c) = cl) (e : (stepOf x s).2 = 0) : (stepOf x s).1.b.length = cl.length := by
  rw [← hc, ← (step_ok v e).2.1, List.length_map]
theorem bal_has {y : House} {cl : List Int} {c : Int} (hc : y.b.map (·.c) = cl) (h : c ∈ cl) : (bal c y.b).2 = true := by
  rw [bal_mem, hc]; exact decide_eq_true h
theorem few_len {cl : List Int} {l : List Step} (e : few cl l = true) : cl.length ≤ 12 ∧ l.length ≤ 14 := by
  unfold few at e
  split at e
  · cases e
  · omega
theorem few_ps {cl : List Int} {l : List Step} (e : few cl l = true) : ∀ s ∈ l, s.ps.length ≤ 70 := by
  unfold few at e
  split at e
  · cases e
  · have key : ∀ l : List Step, fewSteps l = true → ∀ s ∈ l, s.ps.length ≤ 70 := by
      intro l
      induction l with
      | nil => intro _ s hs; cases hs
      | cons x l ih =>
        intro h s hs
        rw [fewSteps] at h
        split at h
        · cases h
        · rcases List.mem_cons.1 hs with rfl | hs
          · omega
          · exact ih h s hs
    exact key l e
end Go.Proofs.Ytpkbecaailhhmaa
