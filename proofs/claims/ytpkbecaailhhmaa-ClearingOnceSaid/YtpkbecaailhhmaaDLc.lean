/-
  The data-level framework, part c: what an operation that makes a value yields, at the data level. Generic in the program; no condition.
-/
import Derived.Test.YtpkbecaailhhmaaDLb
import Derived.Deep.MidRow
import Derived.Laws.StructEq
import Derived.Great.BuildSlice
set_option linter.unusedVariables false
set_option linter.unusedSimpArgs false
namespace Go.DL
open Go.RowKit

def ofConstCell (v : Value) : C :=
  match v with
  | .int k n => .dat (.int k n)
  | .bool b => .dat (.bool b)
  | .string s => .dat (.str s.data.toList)
  | .agg _ => .junk
  | .tuple _ => .junk
  | v => .dat (.con v)

def ofConst (v : Value) : LV :=
  match v with
  | .agg cs => .agg (cs.toList.map ofConstCell)
  | v => .one (ofConstCell v)

def DS.ev (s : DS) : Operand → LV
  | .tmp t => s.sl.getD t (.one .junk)
  | .const v => ofConst v
  | .global g => .one (.dat (.con (.pointer (some ⟨g, 0, none⟩))))
  | .func f => .one (.fn f [])

section
variable {P : Program} {w : World} {A : Nat → Prop} {M : BMap}

theorem ofConstCell_rel (v : Value) : C.rel w A M (ofConstCell v) v := by
  cases v <;> simp only [ofConstCell, C.rel] <;> first | exact .int _ _ | exact .bool _ | exact .str _ | trivial | exact .con _ rfl

theorem ofConst_rel (v : Value) : LV.rel w A M (ofConst v) v := by
  cases v with
  | agg cs =>
    refine ⟨cs, rfl, by simp, fun j c hj => ?_⟩
    simp only [List.getElem?_map, Option.map_eq_some_iff] at hj
    obtain ⟨u, hu, rfl⟩ := hj
    exact ⟨u, by simpa using hu, ofConstCell_rel u⟩
  | _ => simp only [ofConst, LV.rel]; exact ofConstCell_rel _

theorem ev_rel {s : DS} {a : Act} (hsz : a.tmps.size = s.sl.length) (h : ∀ t l, s.sl[t]? = some l → LV.rel w A M l (a.tmps.getD t undef)) (x : Operand) : LV.rel w A M (s.ev x) (a.eval x) := by
  cases x with
  | tmp t =>
    simp only [DS.ev, Act.eval]
    cases ht : s.sl[t]? with
    | none => simp [List.getD, ht]; trivial
    | some l => simp only [List.getD, ht, Option.getD_some]; exact h t l ht
  | const v => exact ofConst_rel v
  | global g => exact RelD.con _ rfl
  | func f => exact ⟨#[], rfl, rfl, fun j c hj => by simp at hj⟩

/-- One operation: whatever follows may take that its value reads as lv, in a world that only grew. -/
def PStep (P : Program) (o : Oper) (a : Act) (w : World) (A : Nat → Prop) (M : BMap) (lv : LV) : Prop :=
  ∀ (K : Act → World → Prop) (Q : Exit → Act → World → Prop), (∀ v w', Below w.heap.size w w' → LV.rel w' A M lv v → K (a.put o.dst v) w') → o.wp P a w K Q

theorem PStep.of_run {o : Oper} {a : Act} {lv : LV} {v : Value} (h : (execOp a.eval o).run P w = .ok (.value v) w) (hl : LV.rel w A M lv v) : PStep P o a w A M lv := by
  intro K Q hk
  unfold Oper.wp
  rw [h]
  exact hk v w (Below.refl _ _) hl

theorem PStep.of_alloc {o : Oper} {a : Act} {lv : LV} {v : Value} {w' : World} (h : (execOp a.eval o).run P w = .ok (.value v) w') (hb : Below w.heap.size w w') (hl : LV.rel w' A M lv v) : PStep P o a w A M lv := by
  intro K Q hk
  unfold Oper.wp
  rw [h]
  exact hk v w' hb hl

/-! ### loads -/
def loadC (P : Program) (t : TypeId) (cs : List C) (off : Nat) : Option LV :=
  match P.underlying t, P.info? t with
  | some d, some i => match d.isRow with
    | true => match Nat.ble (off + i.size) cs.length with
      | true => some (.agg ((cs.drop off).take i.size))
      | false => none
    | false => (cs[off]?).map .one
  | _, _ => none

theorem loadC_sound {t : TypeId} {cs : List C} {off b o : Nat} {lv : LV} (h : loadC P t cs off = some lv)
    (hc : ∀ (j : Nat) (c : C), cs[j]? = some c → ∃ u, w.cell? ⟨b, o + j, none⟩ = some u ∧ C.rel w A M c u) :
    ∃ v, (Instr.loadAt t (.pointer (some ⟨b, o + off, none⟩))).run P w = .ok v w ∧ LV.rel w A M lv v := by
  unfold loadC at h
  cases hu : P.underlying t with
  | none => simp [hu] at h
  | some d =>
    cases hi : P.info? t with
    | none => simp [hu, hi] at h
    | some i =>
      simp only [hu, hi] at h
      cases hd : d.isRow with
      | true =>
        simp only [hd] at h
        cases hle : Nat.ble (off + i.size) cs.length with
        | false => simp [hle] at h
        | true =>
          simp only [hle, Option.some.injEq] at h
          subst h
          have hle' : off + i.size ≤ cs.length := Nat.le_of_ble_eq_true hle
          have hall : ∀ j, j < i.size → ∃ u, w.cell? ⟨b, o + off + j, none⟩ = some u ∧ ∀ c, cs[off + j]? = some c → C.rel w A M c u := by
            intro j hj
            have hlt : off + j < cs.length := by omega
            obtain ⟨u, hu1, hu2⟩ := hc (off + j) cs[off + j] (List.getElem?_eq_getElem hlt)
            refine ⟨u, by rw [← hu1]; congr 2; omega, fun c hcc => ?_⟩
            rw [List.getElem?_eq_getElem hlt] at hcc
            cases hcc; exact hu2
          let f : Nat → Value := fun j => if hj : j < i.size then (hall j hj).choose else undef
          have hf : ∀ j, j < i.size → w.cell? ⟨b, o + off + j, none⟩ = some (f j) ∧ ∀ c, cs[off + j]? = some c → C.rel w A M c (f j) := by
            intro j hj
            simp only [f, hj, dif_pos]
            exact (hall j hj).choose_spec
          have hr := run_loadAt_mid (P := P) w b (o + off) t ((List.range i.size).map f) d (by
            intro j v hv
            simp only [List.getElem?_map, Option.map_eq_some_iff] at hv
            obtain ⟨j', hj', rfl⟩ := hv
            have := List.getElem?_eq_some_iff.1 hj'
            obtain ⟨h1, h2⟩ := this
            simp at h1 h2
            subst h2
            exact (hf j h1).1) hu hd (by simp [hi])
          refine ⟨_, hr, _, rfl, by simp; omega, fun j c hj => ?_⟩
          rw [List.getElem?_take] at hj
          split at hj
          · rename_i hlt
            rw [List.getElem?_drop] at hj
            exact ⟨f j, by simp [hlt], (hf j hlt).2 c hj⟩
          · cases hj
      | false =>
        simp only [hd, Option.map_eq_some_iff] at h
        obtain ⟨c, hc1, rfl⟩ := h
        obtain ⟨u, hu1, hu2⟩ := hc off c hc1
        refine ⟨u, ?_, hu2⟩
        have hagg : (isAgg t).run P w = .ok false w := by
          unfold isAgg
          rw [Sem.run_bind, run_underlying hu w]
          cases d <;> simp_all [TypeDesc.isRow]
        simp [Instr.loadAt, Instr.sureAddr, loadVar, hagg, hu1]
end
end Go.DL
