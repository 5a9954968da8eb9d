/-
  Chapter 39: the examples, evaluated.
-/
import Derived.Test.YtpkbecaailhhmaaPl
set_option linter.unusedVariables false
set_option linter.unusedSimpArgs false
namespace Go.Proofs.Ytpkbecaailhhmaa
open Go.DL
def exP : Step := ⟨0, 3, 100, 0, [], false⟩
def exH : Step := ⟨1, 3, 0, 1, [⟨5, 70⟩], false⟩
theorem ex1 : balancesOf [⟨0, 3, 100, 0, [], false⟩] 100 0 = true := by decide +kernel
theorem ex2 : balancesOf [⟨0, 3, 100, 0, [], false⟩, ⟨1, 3, 0, 1, [⟨5, 70⟩], false⟩] 30 0 = true := by decide +kernel
theorem ex3 : balancesOf [⟨0, 3, 100, 0, [], false⟩, ⟨1, 3, 0, 1, [⟨5, 70⟩], false⟩, ⟨2, 0, 0, 1, [], true⟩] 30 70 = true := by decide +kernel
theorem ex4 : balancesOf [⟨0, 3, 100, 0, [], false⟩, ⟨1, 3, 0, 1, [⟨5, 70⟩], false⟩, ⟨2, 0, 0, 1, [], false⟩] 100 0 = true := by decide +kernel
theorem ex5 : newE [3, 5] = 0 ∧ newB [3, 5] = [⟨3, 0⟩, ⟨5, 0⟩] := by decide +kernel
theorem ex6 : stepOf ⟨[⟨3, 0⟩, ⟨5, 0⟩], []⟩ ⟨1, 3, 0, 1, [⟨5, 70⟩], false⟩ = (none0, 390) := by decide +kernel
theorem ex7 : paid ⟨[⟨3, 0⟩, ⟨5, 0⟩], []⟩ 3 0 = (none0, 1) := by decide +kernel
theorem ex8 : held ⟨[⟨3, 0⟩, ⟨5, 0⟩], []⟩ 1 3 [] = (⟨[⟨3, 0⟩, ⟨5, 0⟩], [⟨1, 3, [], 1⟩]⟩, 0) := by decide +kernel
theorem ex9 : (settled ⟨[⟨3, 0⟩, ⟨5, 0⟩], [⟨1, 3, [], 1⟩]⟩ 1 true).2 = 0 := by decide +kernel
theorem ex10 : check ⟨[], []⟩ = 1 := by decide +kernel
theorem ex11 : total ⟨[⟨3, 0⟩, ⟨5, 0⟩], []⟩ = 0 := by decide +kernel
theorem few_house {h : House} (e : fewHouse h = true) : h.b.length ≤ 30 ∧ h.h.length ≤ 30 := by
  unfold fewHouse at e
  split at e
  · cases e
  · omega
end Go.Proofs.Ytpkbecaailhhmaa
