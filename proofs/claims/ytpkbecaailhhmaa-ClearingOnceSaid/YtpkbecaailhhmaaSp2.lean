/-
  The plain functions of chapter 39, second part: Hold, as the code computes it.
-/
import Derived.Test.YtpkbecaailhhmaaSp
set_option linter.unusedVariables false
set_option linter.unusedSimpArgs false
namespace Go.Proofs.Ytpkbecaailhhmaa
open Go.DL
def held (h : House) (t p : Int) (l : List Pay) : House × Int :=
  if check h ≠ 0 then (none0, check h)
  else if t < 1 ∨ t > 4096 ∨ bsMet (h.h.map (·.t)) t = true then (none0, 391)
  else if hasB h p = false ∨ paysOK (hasB h) l = false then (none0, 1)
  else if (bal p h.b).1 < sumFrom 0 l then (none0, 390)
  else (⟨cred h.b [⟨p, IntKind.i64.wrap (0 - sumFrom 0 l)⟩], h.h.take (bsAt (h.h.map (·.t)) t) ++ [⟨t, p, l, 1⟩] ++ h.h.drop (bsAt (h.h.map (·.t)) t)⟩, 0)
theorem bsAt_le_h {α : Type} (f : α → Int) (l : List α) (key : Int) : bsAt (l.map f) key ≤ l.length := by
  have := bs_le (l.map f) key 0 (l.map f).length (Nat.zero_le _)
  rw [List.length_map] at this
  unfold bsAt
  simpa using this
theorem bsAt_nil (key : Int) : bsAt [] key = 0 := by
  unfold bsAt; rw [bs, if_neg (by simp)]
theorem bsAt_nil_le {α : Type} {f : α → Int} {l : List α} {key : Int} {n : Nat} (h : l = []) : bsAt (l.map f) key ≤ n := by
  subst h; rw [List.map_nil, bsAt_nil]; exact Nat.zero_le _
end Go.Proofs.Ytpkbecaailhhmaa
