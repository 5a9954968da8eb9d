/-
  The data-level framework, part s: a nil slice that is to grow is taken as an empty row of the call's own. Generic in the program; no condition.
-/
import Derived.Test.YtpkbecaailhhmaaDLr
set_option linter.unusedVariables false
set_option linter.unusedSimpArgs false
namespace Go.DL
open Go.RowKit

def DS.ownSlot (t id : Nat) (e : TypeId) (sz : Nat) (s : DS) : Option DS :=
  match (s.drop id).sl[t]? with
  | some (.one (.dat (.con (.slice none 0 0)))) => some { ((s.drop id).push id (.row e sz [])) with sl := (s.drop id).sl.set t (.one (.own id)) }
  | _ => none

def DS.ownCell (i off id : Nat) (e : TypeId) (sz : Nat) (s : DS) : Option DS :=
  match ((s.drop id).push id (.row e sz [])).bx.lookup i with
  | some (.var cs) => match cs[off]? with
    | some (.dat (.con (.slice none 0 0))) => some (((s.drop id).push id (.row e sz [])).setBox i (.var (cs.set off (.own id))))
    | _ => none
  | _ => none

section
variable {P : Program} {w : World} {M : BMap} {base : Nat} {Q : DX → DS → Prop} {s : DS}

theorem St.pushNil {E : Env} {a : Act} (h : St E M w a s) (id : Nat) (e : TypeId) (sz : Nat) (hb : E.base ≤ id) :
    St E (M.upd id 0 (.slice none 0 0) sz) w a ((s.drop id).push id (.row e sz [])) := by
  refine StA.push (h.toA.drop id 0 (.slice none 0 0) sz) drop_free hb (row := none) ⟨rfl, rfl, rfl, Nat.le_refl _, fun _ _ _ => rfl⟩ (fun k hk => by cases hk) (fun b hb => Av_drop hb) (fun k hk => ?_) fun A' _ => ?_
  · simp [boxBlk, BMap.upd, Value.ownBlock] at hk
  · refine ⟨[], ⟨by simp, .inl ⟨by simp [BMap.upd], rfl⟩⟩, by simp, by simp [BMap.upd], fun j c hj => by simp [flat] at hj, fun k hk => by simp [BMap.upd, Value.ownBlock] at hk⟩

theorem nil_rel {A : Nat → Prop} {v : Value} (h : RelD w A (.con (.slice none 0 0)) v) : v = .slice none 0 0 := by cases h; rfl

theorem T_ownSlot {c : Code} (t id : Nat) (e : TypeId) (sz : Nat) (s' : DS) (h : s.ownSlot t id e sz = some s') (hb : Nat.ble base id = true) (hq : T P base c Q s') : T P base c Q s := by
  intro E M w a hE hst
  unfold DS.ownSlot at h
  split at h
  · rename_i hs
    simp only [Option.some.injEq] at h
    subst h
    have h1 := hst.pushNil id e sz (by rw [hE]; exact Nat.le_of_ble_eq_true hb)
    refine hq E _ w a hE ⟨h1.defers, by rw [h1.size]; simp [DS.push], fun t' l hl => ?_, h1.boxes⟩
    simp only [List.getElem?_set] at hl
    split at hl
    · rename_i he
      subst he
      split at hl
      · cases hl
        have h2 := h1.slots t _ hs
        simp only [LV.rel, C.rel] at h2 ⊢
        rw [nil_rel h2]
        simp [BMap.upd]
      · cases hl
    · exact h1.slots t' l hl
  · cases h

theorem T_ownCell {c : Code} (i off id : Nat) (e : TypeId) (sz : Nat) (s' : DS) (h : s.ownCell i off id e sz = some s') (hb : Nat.ble base id = true) (hq : T P base c Q s') : T P base c Q s := by
  intro E M w a hE hst
  unfold DS.ownCell at h
  split at h
  · rename_i cs hl
    split at h
    · rename_i hc
      simp only [Option.some.injEq] at h
      subst h
      have h1 := hst.pushNil id e sz (by rw [hE]; exact Nat.le_of_ble_eq_true hb)
      have hm := lookup_mem hl
      refine hq E _ w a hE (h1.setBox (b := .var (cs.set off (.own id))) hm rfl ⟨rfl, rfl, rfl, Nat.le_refl _, fun _ _ _ => rfl⟩ fun A' hA' => ?_)
      obtain ⟨arr, T, hg, hcr⟩ := h1.boxes.ok i _ hm
      refine ⟨arr, T, hg, by rw [hcr.1, List.length_set], fun j c hj => ?_⟩
      rw [List.getElem?_set] at hj
      split at hj
      · rename_i he
        subst he
        split at hj
        · cases hj
          obtain ⟨u, hu, hr⟩ := hcr.2 off _ hc
          simp only [C.rel] at hr
          exact ⟨u, hu, by rw [nil_rel hr]; simp [C.rel, BMap.upd]⟩
        · cases hj
      · obtain ⟨u, hu, hr⟩ := hcr.2 j c hj
        exact ⟨u, hu, hr.mono hA'⟩
    · cases h
  · cases h
end
end Go.DL
