/-
  The data-level framework, part w: nil slices read as empty data: in a state, and as a call's arguments. Generic in the program; no condition.
-/
import Derived.Test.YtpkbecaailhhmaaDLv
set_option linter.unusedVariables false
set_option linter.unusedSimpArgs false
namespace Go.DL
open Go.RowKit

def C.unnil (sz : Nat) : C → C
  | .dat (.con (.slice none 0 0)) => .dat (.sl sz [])
  | c => c
def LV.unnil (j sz : Nat) : LV → LV
  | .one c => .one (c.unnil sz)
  | .agg cs => .agg (cs.modify j (C.unnil sz))
  | l => l
def DS.unnil (t j sz : Nat) (s : DS) : DS := { s with sl := s.sl.modify t (LV.unnil j sz) }

theorem nil_sl {w : World} {A : Nat → Prop} {v : Value} (sz : Nat) (h : RelD w A (.con (.slice none 0 0)) v) : RelD w A (.sl sz []) v := by
  cases h; exact .sl0 sz none 0 (fun _ => rfl)

section
variable {P : Program} {w : World} {A : Nat → Prop} {M : BMap} {base : Nat} {Q : DX → DS → Prop} {s : DS}

theorem C.unnil_rel {sz : Nat} {c : C} {v : Value} (h : C.rel w A M c v) : C.rel w A M (c.unnil sz) v := by
  unfold C.unnil
  split
  · exact nil_sl sz h
  · exact h

theorem LV.unnil_rel {j sz : Nat} {l : LV} {v : Value} (h : LV.rel w A M l v) : LV.rel w A M (l.unnil j sz) v := by
  unfold LV.unnil
  split
  · exact C.unnil_rel h
  · obtain ⟨arr, h1, h2, h3⟩ := h
    refine ⟨arr, h1, by simp [h2], fun k c hk => ?_⟩
    rw [List.getElem?_modify] at hk
    simp only [Option.map_eq_map, Option.map_eq_some_iff] at hk
    obtain ⟨c', hc', rfl⟩ := hk
    obtain ⟨u, hu, hr⟩ := h3 k c' hc'
    refine ⟨u, hu, ?_⟩
    split
    · exact C.unnil_rel hr
    · exact hr
  · exact h

theorem DS.le_unnil (s : DS) (t j sz : Nat) : s.Le (s.unnil t j sz) := by
  intro E M w a h
  refine ⟨M, h.defers, by simp [DS.unnil, h.size], fun k l hk => ?_, h.boxes⟩
  simp only [DS.unnil, List.getElem?_modify, Option.map_eq_map, Option.map_eq_some_iff] at hk
  obtain ⟨l', hl', rfl⟩ := hk
  have := h.slots k l' hl'
  simp only [DS.unnil]
  split
  · exact LV.unnil_rel this
  · exact this

theorem T_unnil {c : Code} (t j sz : Nat) (s' : DS) (h : s.unnil t j sz = s') (hq : T P base c Q s') : T P base c Q s := T_le ((DS.le_unnil s t j sz).trans (DS.le_of_eq h)) hq
theorem TL_unnil {ops : Array Oper} {l : List Oper} (t j sz : Nat) (s' : DS) (h : s.unnil t j sz = s') (hq : TL P base ops l Q s') : TL P base ops l Q s := TL_le ((DS.le_unnil s t j sz).trans (DS.le_of_eq h)) hq

/-- Whatever reads as d' reads as d. -/
def Weak (d d' : D) : Prop := ∀ (w : World) (A : Nat → Prop) (v : Value), RelD w A d' v → RelD w A d v
theorem Weak.refl (d : D) : Weak d d := fun _ _ _ h => h
theorem Weak.nil (sz : Nat) : Weak (.sl sz []) (.con (.slice none 0 0)) := fun _ _ _ h => nil_sl sz h
def AllWeak : List D → List D → Prop
  | [], [] => True
  | d :: ds, d' :: ds' => Weak d d' ∧ AllWeak ds ds'
  | _, _ => False
theorem AllWeak.length : ∀ {ds ds' : List D}, AllWeak ds ds' → ds.length = ds'.length
  | [], [], _ => rfl
  | _ :: _, _ :: _, h => by simp [AllWeak.length h.2]
  | [], _ :: _, h => h.elim
  | _ :: _, [], h => h.elim
theorem AllWeak.get : ∀ {ds ds' : List D}, AllWeak ds ds' → ∀ (j : Nat) (d : D), ds[j]? = some d → ∃ d', ds'[j]? = some d' ∧ Weak d d'
  | _ :: _, d' :: _, h, 0, d, hj => by simp at hj; subst hj; exact ⟨d', rfl, h.1⟩
  | _ :: ds, _ :: ds', h, j + 1, d, hj => by simpa using AllWeak.get h.2 j d (by simpa using hj)
  | [], [], _, _, _, hj => by simp at hj
  | [], _ :: _, h, _, _, _ => h.elim
  | _ :: _, [], h, _, _, _ => h.elim
theorem Weak.agg {ds ds' : List D} (h : AllWeak ds ds') : Weak (.agg ds) (.agg ds') := by
  intro w A v hr
  cases hr with
  | agg _ arr hs vs hv hrel =>
    refine .agg ds arr (by rw [hs, h.length]) vs (fun j c hj => ?_) (fun j c hj => ?_)
    · obtain ⟨d', hd', _⟩ := h.get j c hj; exact hv j d' hd'
    · obtain ⟨d', hd', hw⟩ := h.get j c hj; exact hw _ _ _ (hrel j d' hd')
theorem Ret.weak {f : FuncId} {ds ds' : List D} {d : D} (hr : Ret P f ds d) (h : AllWeak ds ds') : Ret P f ds' d := by
  refine ⟨hr.1, fun w A vs hA hs hv => hr.2 w A vs hA (by rw [hs, h.length]) fun j c hj => ?_⟩
  obtain ⟨d', hd', hw⟩ := h.get j c hj
  obtain ⟨u, hu, hrel⟩ := hv j d' hd'
  exact ⟨u, hu, hw _ _ _ hrel⟩
end
end Go.DL
