/-
  Chapter 39: how the arguments of the laws read.
-/
import Derived.Test.YtpkbecaailhhmaaDLz
import Derived.Test.YtpkbecaailhhmaaSp3
import Derived.Test.YtpkbecaailhhmaaRows
set_option linter.unusedVariables false
set_option linter.unusedSimpArgs false
namespace Go.Proofs.Ytpkbecaailhhmaa
open Go.DL Go.ChangeShapes Go.WideShapes Go.ChangeAt Go.RowKit
set_option maxRecDepth 100000
theorem Try.own : ownKnob Try.prog.godebug = none := by kernel_rfl
theorem Try.laidOut : laidOutB Try.prog = true := by kernel_rfl
theorem und3 : Try.prog.underlying 3 = some (.int .i64) := by kernel_rfl
theorem und4 : Try.prog.underlying 4 = some .bool := by kernel_rfl
theorem und22 : Try.prog.underlying 22 = some (.slice 3) := by kernel_rfl
theorem und23 : Try.prog.underlying 23 = some (.slice 51) := by kernel_rfl
theorem und24 : Try.prog.underlying 24 = some (.slice 54) := by kernel_rfl
theorem und41 : Try.prog.underlying 41 = some (.slice 39) := by kernel_rfl
abbrev R47 : Nat := 140737488355328
theorem reach_lt {n k : Nat} (h : n * k ≤ reachBytes) (hk : 0 < k) : n ≤ R47 := by
  have h1 : n ≤ n * k := Nat.le_mul_of_pos_right _ hk
  have h2 : reachBytes ≤ R47 := by decide
  omega
theorem decInt : Dec Try.prog 3 (fun n : Int => [encI n]) (fun n => (Lit.int .i64 n).wf = true) := Dec.int und3
theorem decInts : Dec Try.prog 22 (fun l : List Int => [.sl 1 (l.map encI)]) (fun l => l.length * 8 ≤ reachBytes ∧ ∀ a ∈ l, (Lit.int .i64 a).wf = true) :=
  Dec.slice und22 1 8 (by kernel_rfl) (by kernel_rfl) (by decide) decInt encI (fun _ => rfl) (fun _ => rfl)
theorem decPay : Dec Try.prog 51 (fun p : Pay => [.int .i64 p.c, .int .i64 p.a]) (fun _ => True) :=
  Dec.map (Dec.struct 2 (by kernel_rfl) (by kernel_rfl) (DecFs.cons 1 (by kernel_rfl) (Dec.int und3) (fun _ => rfl) (DecFs.cons 1 (by kernel_rfl) (Dec.int und3) (fun _ => rfl) (DecFs.nil _))) (fun _ => rfl))
    (fun q => ⟨q.1, q.2.1⟩) _ _ (fun _ => rfl) (fun _ _ => trivial)
theorem decPays : Dec Try.prog 23 (fun l : List Pay => [.sl 2 (l.map encPay)]) (fun l => l.length ≤ R47) :=
  Dec.map (Dec.slice und23 2 16 (by kernel_rfl) (by kernel_rfl) (by decide) decPay encPay (fun _ => rfl) (fun _ => rfl)) id _ _ (fun _ => rfl) (fun _ h => reach_lt h.1 (by decide))
theorem decHold : Dec Try.prog 54 (fun x : Hold => [.int .i64 x.t, .int .i64 x.p, .sl 2 (x.ps.map encPay), .int .i64 x.s]) (fun x => x.ps.length ≤ R47) :=
  Dec.map (Dec.struct 4 (by kernel_rfl) (by kernel_rfl) (DecFs.cons 1 (by kernel_rfl) (Dec.int und3) (fun _ => rfl) (DecFs.cons 1 (by kernel_rfl) (Dec.int und3) (fun _ => rfl) (DecFs.cons 1 (by kernel_rfl) decPays (fun _ => rfl)
    (DecFs.cons 1 (by kernel_rfl) (Dec.int und3) (fun _ => rfl) (DecFs.nil _))))) (fun _ => rfl))
    (fun q => ⟨q.1, q.2.1, q.2.2.1, q.2.2.2.1⟩) _ _ (fun _ => rfl) (fun _ h => h.2.2.1)
theorem decHolds : Dec Try.prog 24 (fun l : List Hold => [.sl 4 (l.map encHold)]) (fun l => l.length ≤ R47 ∧ ∀ x ∈ l, x.ps.length ≤ R47) :=
  Dec.map (Dec.slice und24 4 48 (by kernel_rfl) (by kernel_rfl) (by decide) decHold encHold (fun _ => rfl) (fun _ => rfl)) id _ _ (fun _ => rfl) (fun _ h => ⟨reach_lt h.1 (by decide), h.2⟩)
theorem decHouse : Dec Try.prog 26 (fun h : House => [.sl 2 (h.b.map encPay), .sl 4 (h.h.map encHold)]) Fits :=
  Dec.map (Dec.struct 2 (by kernel_rfl) (by kernel_rfl) (DecFs.cons 1 (by kernel_rfl) decPays (fun _ => rfl) (DecFs.cons 1 (by kernel_rfl) decHolds (fun _ => rfl) (DecFs.nil _))) (fun _ => rfl))
    (fun q => ⟨q.1, q.2.1⟩) _ _ (fun _ => rfl) (fun _ h => ⟨h.1, h.2.1⟩)
theorem decStep : Dec Try.prog 39 (fun x : Step => [.int .i64 x.k, .int .i64 x.c, .int .i64 x.a, .int .i64 x.t, .sl 2 (x.ps.map encPay), .bool x.pd]) (fun x => x.ps.length ≤ R47) :=
  Dec.map (Dec.struct 6 (by kernel_rfl) (by kernel_rfl) (DecFs.cons 1 (by kernel_rfl) (Dec.int und3) (fun _ => rfl) (DecFs.cons 1 (by kernel_rfl) (Dec.int und3) (fun _ => rfl) (DecFs.cons 1 (by kernel_rfl) (Dec.int und3) (fun _ => rfl)
    (DecFs.cons 1 (by kernel_rfl) (Dec.int und3) (fun _ => rfl) (DecFs.cons 1 (by kernel_rfl) decPays (fun _ => rfl) (DecFs.cons 1 (by kernel_rfl) (Dec.bool und4) (fun _ => rfl) (DecFs.nil _))))))) (fun _ => rfl))
    (fun q => ⟨q.1, q.2.1, q.2.2.1, q.2.2.2.1, q.2.2.2.2.1, q.2.2.2.2.2.1⟩) _ _ (fun _ => rfl) (fun _ h => h.2.2.2.2.1)
theorem decSteps : Dec Try.prog 41 (fun l : List Step => [.sl 6 (l.map encStep)]) (fun l => l.length ≤ R47 ∧ ∀ x ∈ l, x.ps.length ≤ R47) :=
  Dec.map (Dec.slice und41 6 64 (by kernel_rfl) (by kernel_rfl) (by decide) decStep encStep (fun _ => rfl) (fun _ => rfl)) id _ _ (fun _ => rfl) (fun _ h => ⟨reach_lt h.1 (by decide), h.2⟩)
end Go.Proofs.Ytpkbecaailhhmaa
