/-
  The data-level framework, part g: literals of structs and slices, small operations, and one function for every operation that makes a value. Generic in the program; no condition.
-/
import Derived.Test.YtpkbecaailhhmaaDLf
set_option linter.unusedVariables false
set_option linter.unusedSimpArgs false
namespace Go.DL
open Go.RowKit
section
variable {P : Program} {w : World} {A : Nat → Prop} {M : BMap}

def C.fit (bx : List (Nat × Box)) : C → Bool
  | .dat d => d.one
  | .own id => match bx.lookup id with
    | some (.row _ _ _) => true
    | _ => false
  | .junk => false
  | _ => true

/-- The cells of a part. -/
def LV.cs (bx : List (Nat × Box)) : LV → Option (List C)
  | .one c => match c.fit bx with
    | true => some [c]
    | false => none
  | .agg cs => some cs
  | .tup _ => none

theorem rv_slice {id : Nat} {e : TypeId} {sz : Nat} {es : List D} (h : BoxOK w A M id (.row e sz es)) : ∃ a n c, M.rv id = .slice a n c := by
  obtain ⟨xs, ho, _⟩ := h
  rcases ho.2 with ⟨hv, _⟩ | ⟨g, cap, cur, hv, _⟩
  · exact ⟨_, _, _, hv⟩
  · exact ⟨_, _, _, hv⟩

/-- A cell that fits is one cell. -/
theorem C.fit_one {bx : List (Nat × Box)} {c : C} {v : Value} (hb : ∀ id b, (id, b) ∈ bx → BoxOK w A M id b) (h : c.fit bx = true) (hc : C.rel w A M c v) : v.oneCell' = true ∧ v.cells = #[v] := by
  have key : v.oneCell' = true → v.oneCell' = true ∧ v.cells = #[v] := fun ho => ⟨ho, by cases v <;> first | rfl | (simp [Value.oneCell'] at ho)⟩
  cases c with
  | dat d => exact key (RelD.one hc h)
  | own id =>
    simp only [C.fit] at h
    split at h
    · rename_i e sz es hl
      obtain ⟨a, n, c, hv⟩ := rv_slice (hb id _ (lookup_mem hl))
      simp only [C.rel] at hc
      rw [hc, hv]
      exact ⟨rfl, rfl⟩
    · cases h
  | ref id off => simp only [C.rel] at hc; subst hc; exact ⟨rfl, rfl⟩
  | rref id i off => simp only [C.rel] at hc; subst hc; exact ⟨rfl, rfl⟩
  | fn f caps => obtain ⟨arr, rfl, _⟩ := hc; exact ⟨rfl, rfl⟩
  | junk => simp [C.fit] at h

theorem LV.cs_rel {bx : List (Nat × Box)} {l : LV} {cs : List C} {v : Value} (hb : ∀ id b, (id, b) ∈ bx → BoxOK w A M id b) (h : l.cs bx = some cs) (hl : LV.rel w A M l v) : cellsRel w A M cs v.cells := by
  cases l with
  | one c =>
    simp only [LV.cs] at h
    split at h
    · rename_i hf
      cases h
      have h1 := C.fit_one hb hf hl
      rw [h1.2]
      refine ⟨rfl, fun j c' hj => ?_⟩
      cases j with
      | zero => simp at hj; subst hj; exact ⟨v, rfl, hl⟩
      | succ j => simp at hj
    · cases h
  | agg cs' =>
    simp only [LV.cs, Option.some.injEq] at h
    subst h
    obtain ⟨arr, rfl, hc⟩ := hl
    exact hc
  | tup _ => simp [LV.cs] at h

/-! ### filling -/
def dfill (place : Nat → Option (Nat × Nat)) (cells : List C) : List (Nat × List C) → Option (List C)
  | [] => some cells
  | (i, cs) :: rest => match place i with
    | none => none
    | some (off, size) => match cs.length == size && Nat.ble (off + cs.length) cells.length with
      | true => dfill place (cells.take off ++ (cs ++ cells.drop (off + cs.length))) rest
      | false => none

theorem foldl_set_get : ∀ (vs : List Value) (off k : Nat) (arr : Array Value) (j : Nat), off + k + vs.length ≤ arr.size →
    ((vs.zipIdx k).foldl (fun cs (c, j) => cs.setIfInBounds (off + j) c) arr)[j]? = if off + k ≤ j ∧ j < off + k + vs.length then vs[j - (off + k)]? else arr[j]?
  | [], off, k, arr, j, _ => by simp; omega
  | v :: vs, off, k, arr, j, h => by
    simp only [List.length_cons] at h
    rw [List.zipIdx_cons, List.foldl_cons, foldl_set_get vs off (k + 1) _ j (by simp; omega)]
    simp only [List.length_cons]
    by_cases hj : j = off + k
    · subst hj
      rw [if_neg (by omega), if_pos (by omega), Array.getElem?_setIfInBounds_self, if_pos (by omega)]
      simp
    · by_cases hlt : off + k + 1 ≤ j ∧ j < off + k + 1 + vs.length
      · rw [if_pos (by omega), if_pos (by omega)]
        rw [show j - (off + k) = (j - (off + (k + 1))) + 1 by omega]
        simp
      · rw [if_neg (by omega), if_neg (by omega), Array.getElem?_setIfInBounds_ne (by omega)]

theorem foldl_set_size : ∀ (vs : List (Value × Nat)) (off : Nat) (arr : Array Value), (vs.foldl (fun cs (c, j) => cs.setIfInBounds (off + j) c) arr).size = arr.size
  | [], _, _ => rfl
  | _ :: vs, off, arr => by rw [List.foldl_cons, foldl_set_size vs]; simp

theorem dfill_sound {place : Nat → Option (Nat × Nat)} : ∀ (parts : List (Nat × List C)) (vals : List (Nat × Value)) (cells : List C) (arr : Array Value) (out : List C), dfill place cells parts = some out → cellsRel w A M cells arr →
    vals.length = parts.length → (∀ (j : Nat) (p : Nat × List C), parts[j]? = some p → ∃ v, vals[j]? = some (p.1, v) ∧ cellsRel w A M p.2 v.cells) →
    ∃ arr', Instr.fill place arr vals = some arr' ∧ cellsRel w A M out arr'
  | [], vals, cells, arr, out, h, hc, hl, _ => by
    simp only [dfill, Option.some.injEq] at h
    subst h
    have : vals = [] := List.eq_nil_of_length_eq_zero hl
    subst this
    exact ⟨arr, rfl, hc⟩
  | (i, cs) :: parts, vals, cells, arr, out, h, hc, hl, hp => by
    obtain ⟨v, hv, hcs⟩ := hp 0 _ rfl
    cases vals with
    | nil => simp at hv
    | cons x vals =>
      simp only [List.getElem?_cons_zero, Option.some.injEq] at hv
      subst hv
      unfold dfill at h
      cases hpl : place i with
      | none => simp [hpl] at h
      | some os =>
        obtain ⟨off, size⟩ := os
        simp only [hpl] at h
        cases hcond : cs.length == size && Nat.ble (off + cs.length) cells.length with
        | false => simp [hcond] at h
        | true =>
          simp only [hcond] at h
          simp only [Bool.and_eq_true, beq_iff_eq] at hcond
          obtain ⟨hsz, hle⟩ := hcond
          have hle' := Nat.le_of_ble_eq_true hle
          have h1 : v.cells.size = cs.length := hcs.1
          have h2 := hc.1
          replace hcs : cellsRel w A M cs v.cells := hcs
          have hfill : Instr.fill place arr ((i, v) :: vals) = Instr.fill place (v.cells.zipIdx.foldl (fun cs (c, j) => cs.setIfInBounds (off + j) c) arr) vals := by
            simp only [Instr.fill, hpl]
            rw [if_neg]
            simp
            omega
          rw [hfill]
          refine dfill_sound parts vals _ _ out h ⟨?_, ?_⟩ (by simpa using hl) (fun j p hj => hp (j + 1) p (by simpa using hj))
          · rw [← Array.foldl_toList, Array.toList_zipIdx, foldl_set_size]
            simp
            omega
          · intro j c hj
            rw [← Array.foldl_toList, Array.toList_zipIdx, foldl_set_get _ off 0 arr j (by simp; omega)]
            simp only [Nat.add_zero, Array.length_toList]
            rw [List.getElem?_append] at hj
            split at hj
            · rename_i hjlt
              simp at hjlt
              rw [if_neg (by omega)]
              rw [List.getElem?_take] at hj
              split at hj
              · exact hc.2 j c hj
              · cases hj
            · rename_i hjge
              simp at hjge
              have hmin : min off cells.length = off := by omega
              simp only [List.length_take, hmin] at hj
              rw [List.getElem?_append] at hj
              split at hj
              · rename_i hjl
                obtain ⟨u, hu, hr⟩ := hcs.2 _ c hj
                rw [if_pos (by omega)]
                exact ⟨u, by simpa using hu, hr⟩
              · rename_i hjl
                rw [if_neg (by omega)]
                rw [List.getElem?_drop] at hj
                rw [show off + cs.length + (j - off - cs.length) = j by omega] at hj
                exact hc.2 j c hj

def partsC (bx : List (Nat × Box)) : List (Nat × LV) → Option (List (Nat × List C))
  | [] => some []
  | (i, l) :: rest => match l.cs bx, partsC bx rest with
    | some cs, some r => some ((i, cs) :: r)
    | _, _ => none

theorem partsC_rel {bx : List (Nat × Box)} (hb : ∀ id b, (id, b) ∈ bx → BoxOK w A M id b) : ∀ (ls : List (Nat × LV)) (out : List (Nat × List C)), partsC bx ls = some out → ∀ (vals : List (Nat × Value)), vals.length = ls.length →
    (∀ (j : Nat) (p : Nat × LV), ls[j]? = some p → ∃ v, vals[j]? = some (p.1, v) ∧ LV.rel w A M p.2 v) →
    out.length = ls.length ∧ ∀ (j : Nat) (p : Nat × List C), out[j]? = some p → ∃ v, vals[j]? = some (p.1, v) ∧ cellsRel w A M p.2 v.cells
  | [], out, h, vals, hl, _ => by simp [partsC] at h; subst h; simp
  | (i, l) :: rest, out, h, vals, hl, hp => by
    unfold partsC at h
    split at h
    · rename_i cs r h1 h2
      cases h
      obtain ⟨v, hv, hr⟩ := hp 0 _ rfl
      cases vals with
      | nil => simp at hv
      | cons x vals =>
        simp only [List.getElem?_cons_zero, Option.some.injEq] at hv
        subst hv
        obtain ⟨h3, h4⟩ := partsC_rel hb rest r h2 vals (by simpa using hl) (fun j p hj => hp (j + 1) p (by simpa using hj))
        refine ⟨by simp [h3], fun j p hj => ?_⟩
        cases j with
        | zero => simp at hj; subst hj; exact ⟨v, rfl, LV.cs_rel hb h1 hr⟩
        | succ j => exact h4 j p (by simpa using hj)
    · cases h

def placesOf (P : Program) : List Field → Option (List (Nat × Nat))
  | [] => some []
  | f :: fs => match P.info? f.type, placesOf P fs with
    | some i, some r => some ((f.offset, i.size) :: r)
    | _, _ => none

theorem placesOf_mapM : ∀ (fs : List Field) (r : List (Nat × Nat)), placesOf P fs = some r → fs.mapM (fun f => (P.info? f.type).map fun i => (f.offset, i.size)) = some r
  | [], r, h => by simp [placesOf] at h; subst h; rfl
  | f :: fs, r, h => by
    unfold placesOf at h
    split at h
    · rename_i i r' h1 h2
      cases h
      simp [List.mapM_cons, h1, placesOf_mapM fs r' h2]
    · cases h

/-- The cells of a type's zero value. -/
def zeroC (P : Program) (t : TypeId) : Option (List C) :=
  match P.info? t with
  | some i => match i.zero with
    | some z => some (z.cells.toList.map ofConstCell)
    | none => none
  | none => none

theorem zeroC_rel {t : TypeId} {cs : List C} (h : zeroC P t = some cs) : ∃ i z, P.info? t = some i ∧ i.zero = some z ∧ cellsRel w A M cs z.cells := by
  unfold zeroC at h
  split at h
  · rename_i i hi
    split at h
    · rename_i z hz
      cases h
      refine ⟨i, z, hi, hz, by simp, fun j c hj => ?_⟩
      simp only [List.getElem?_map, Option.map_eq_some_iff] at hj
      obtain ⟨u, hu, rfl⟩ := hj
      exact ⟨u, by simpa using hu, ofConstCell_rel u⟩
    · cases h
  · cases h

def vBuild (P : Program) (bx : List (Nat × Box)) (t : TypeId) (parts : List (Nat × LV)) : Option LV :=
  match P.underlying t, zeroC P t, partsC bx parts with
  | some (.struct fs), some z, some ps => match placesOf P fs.toList with
    | some pl => (dfill (pl[·]?) z ps).map .agg
    | none => none
  | some (.array _ e), some z, some ps => match P.info? e with
    | some ie => (dfill (fun i => some (i * ie.size, ie.size)) z ps).map .agg
    | none => none
  | _, _, _ => none

theorem vBuild_sound {bx : List (Nat × Box)} (hb : ∀ id b, (id, b) ∈ bx → BoxOK w A M id b) {t : TypeId} {parts : List (Nat × LV)} {lv : LV} (h : vBuild P bx t parts = some lv) (vals : Array (Nat × Value)) (hl : vals.size = parts.length)
    (hp : ∀ (j : Nat) (p : Nat × LV), parts[j]? = some p → ∃ v, vals.toList[j]? = some (p.1, v) ∧ LV.rel w A M p.2 v) :
    ∃ r, (Instr.build t vals).run P w = .ok r w ∧ LV.rel w A M lv r := by
  unfold vBuild at h
  split at h
  · rename_i fs z ps hu hz hps
    split at h
    · rename_i pl hpl
      simp only [Option.map_eq_some_iff] at h
      obtain ⟨out, ho, rfl⟩ := h
      obtain ⟨i, zv, hi, hzv, hzr⟩ := zeroC_rel (w := w) (A := A) (M := M) hz
      obtain ⟨h1, h2⟩ := partsC_rel hb parts ps hps vals.toList (by simpa using hl) hp
      obtain ⟨arr', hf, hr⟩ := dfill_sound ps vals.toList z zv.cells out ho hzr (by simp [hl, h1]) h2
      refine ⟨.agg arr', ?_, arr', rfl, hr⟩
      refine run_build w t vals arr' ?_
      simp only [Program.built, hi, hu, hzv, placesOf_mapM _ _ hpl]
      simpa using hf
    · cases h
  · rename_i n e z ps hu hz hps
    split at h
    · rename_i ie hie
      simp only [Option.map_eq_some_iff] at h
      obtain ⟨out, ho, rfl⟩ := h
      obtain ⟨i, zv, hi, hzv, hzr⟩ := zeroC_rel (w := w) (A := A) (M := M) hz
      obtain ⟨h1, h2⟩ := partsC_rel hb parts ps hps vals.toList (by simpa using hl) hp
      obtain ⟨arr', hf, hr⟩ := dfill_sound ps vals.toList z zv.cells out ho hzr (by simp [hl, h1]) h2
      refine ⟨.agg arr', ?_, arr', rfl, hr⟩
      refine run_build w t vals arr' ?_
      simp only [Program.built, hi, hu, hzv, hie]
      exact hf
    · cases h
  · cases h

/-! ### slice literals -/
def partsD (bx : List (Nat × Box)) : List (Nat × LV) → Option (List D)
  | [] => some []
  | (_, l) :: rest => match l.plain, l.toD bx, partsD bx rest with
    | true, some d, some r => some (d :: r)
    | _, _, _ => none

/-- The elements of a slice literal: (element type, its size, the elements); what the cells are is asked beside. -/
def sliceLit (P : Program) (bx : List (Nat × Box)) (t : TypeId) (len : Nat) (parts : List (Nat × LV)) : Option (Prop × TypeId × Nat × List D) :=
  match P.underlying t with
  | some (.slice e) => match P.info? e, partsC bx parts, partsD bx parts with
    | some ie, some ps, some ds => match Nat.ble len 16777216 && Nat.ble (len * ie.size) 16777216 && (ds.length == len) && (ds.all fun d => d.cells.length == ie.size) && (ie.zero.isSome) with
      | true => some (dfill (fun i => some (i * ie.size, ie.size)) (List.replicate (len * ie.size) .junk) ps = some ((flat ds).map .dat), e, ie.size, ds)
      | false => none
    | _, _, _ => none
  | _ => none

theorem fill_size {place : Nat → Option (Nat × Nat)} : ∀ (parts : List (Nat × Value)) (cells out : Array Value), Instr.fill place cells parts = some out → out.size = cells.size
  | [], cells, out, h => by simp [Instr.fill] at h; subst h; rfl
  | (i, v) :: rest, cells, out, h => by
    unfold Instr.fill at h
    split at h
    · cases h
    · split at h
      · cases h
      · rw [fill_size rest _ out h, ← Array.foldl_toList, Array.toList_zipIdx, foldl_set_size]

theorem sliceLit_sound {bx : List (Nat × Box)} (hb : ∀ id b, (id, b) ∈ bx → BoxOK w A M id b) {t e : TypeId} {len sz : Nat} {parts : List (Nat × LV)} {ds : List D} {side : Prop} (h : sliceLit P bx t len parts = some (side, e, sz, ds)) (hs : side)
    (vals : Array (Nat × Value)) (hl : vals.size = parts.length) (hp : ∀ (j : Nat) (p : Nat × LV), parts[j]? = some p → ∃ v, vals.toList[j]? = some (p.1, v) ∧ LV.rel w A M p.2 v) :
    ∃ arr : Array Value, (Instr.buildSlice t len vals).run P w = .ok (.slice (some ⟨w.heap.size, 0, none⟩) len len) (w.alloc (.cells arr e)) ∧ arr.size = len * sz ∧ ds.length = len ∧ (∀ d ∈ ds, d.cells.length = sz) ∧ len ≤ 16777216 ∧
      P.underlying t = some (.slice e) ∧ (∃ ie, P.info? e = some ie ∧ ie.size = sz) ∧
      ∀ (j : Nat) (c : D), (flat ds)[j]? = some c → ∃ v, arr[j]? = some v ∧ RelD w A c v := by
  unfold sliceLit at h
  split at h
  · rename_i e' hu
    split at h
    · rename_i ie ps ds' hie hps hpd
      split at h
      · rename_i hcond
        simp only [Option.some.injEq, Prod.mk.injEq] at h
        obtain ⟨h1, rfl, rfl, rfl⟩ := h
        rw [← h1] at hs
        simp only [Bool.and_eq_true, beq_iff_eq, List.all_eq_true] at hcond
        obtain ⟨⟨⟨⟨hlen0, hle⟩, hlen⟩, hall⟩, hz⟩ := hcond
        have hle' := Nat.le_of_ble_eq_true hle
        obtain ⟨z, hz'⟩ := Option.isSome_iff_exists.1 hz
        obtain ⟨h2, h3⟩ := partsC_rel hb parts ps hps vals.toList (by simpa using hl) hp
        let cells0 : Array Value := (Array.range (len * ie.size)).map (z.cells[· % z.cells.size]!)
        have hc0 : cellsRel w A M (List.replicate (len * ie.size) .junk) cells0 := by
          refine ⟨by simp [cells0], fun j c hj => ?_⟩
          rw [List.getElem?_replicate] at hj
          split at hj
          · rename_i hlt
            cases hj
            exact ⟨z.cells[j % z.cells.size]!, by simp [cells0, hlt], trivial⟩
          · cases hj
        obtain ⟨arr', hf, hr⟩ := dfill_sound ps vals.toList _ cells0 _ hs hc0 (by simp [hl, h2]) h3
        have hsz : arr'.size = len * ie.size := by rw [fill_size _ _ _ hf]; simp [cells0]
        refine ⟨arr', ?_, hsz, hlen, hall, Nat.le_of_ble_eq_true hlen0, hu, ⟨ie, hie, rfl⟩, fun j c hj => ?_⟩
        · by_cases hpos : len * ie.size = 0
          · have hc0e : cells0 = #[] := by simp [cells0, hpos]
            rw [hc0e] at hf
            have hrun : (Instr.buildSlice t len vals).run P w = .ok (.slice (some ⟨w.heap.size, 0, none⟩) len len) (w.alloc (.cells arr' e')) := by
              simp only [Instr.buildSlice, Sem.run_bind, run_underlying hu, Result.andThen_ok, sizeOf, typeInfo, run_program, hie, Sem.run_pure, hpos, if_neg (show ¬ ((0 : Nat) > 2 ^ 24) by decide), if_true]
              have : (Array.range 0).map (fun x => (#[] : Array Value)[x % (#[] : Array Value).size]!) = #[] := by simp
              rw [this, hf]
              simp [newRow]
            exact hrun
          · exact run_buildSlice w t e' len vals arr' ie z hu hie hz' (by omega) hpos hf
        · obtain ⟨v, hv, hrel⟩ := hr.2 j (.dat c) (by simp [hj])
          exact ⟨v, hv, hrel⟩
      · cases h
    · cases h
  · cases h

/-- A slice literal in a region that draws its order: at once immutable data. -/
def vBuildSlice (P : Program) (bx : List (Nat × Box)) (t : TypeId) (len : Nat) (parts : List (Nat × LV)) : Option (Prop × LV) :=
  (sliceLit P bx t len parts).map fun r => (r.1, .one (.dat (.sl r.2.2.1 r.2.2.2)))

/-! ### small ones -/
def vLen (P : Program) (bx : List (Nat × Box)) (t : TypeId) (x : LV) : Option LV :=
  match P.underlying t, x with
  | some (.slice _), .one (.dat (.sl _ es)) => some (.one (.dat (.int .i64 (es.length : Int))))
  | some (.slice _), .one (.dat (.con (.slice none 0 0))) => some (.one (.dat (.int .i64 0)))
  | some (.slice _), .one (.own id) => match bx.lookup id with
    | some (.row _ _ es) => some (.one (.dat (.int .i64 (es.length : Int))))
    | _ => none
  | some .string, .one (.dat (.str s)) => some (.one (.dat (.int .i64 (s.length : Int))))
  | some (.array n _), _ => some (.one (.dat (.int .i64 (n : Int))))
  | _, _ => none

theorem vLen_sound {bx : List (Nat × Box)} (hb : ∀ id b, (id, b) ∈ bx → BoxOK w A M id b) {t ty : TypeId} {x lv : LV} {u : Value} (h : vLen P bx t x = some lv) (hx : LV.rel w A M x u) :
    ∃ r, (Builtin.len_ #[t] ty #[u]).run P w = .ok r w ∧ LV.rel w A M lv r := by
  unfold vLen at h
  split at h
  · rename_i e sz es hu
    cases h
    simp only [LV.rel, C.rel] at hx
    obtain ⟨a, cap, rfl, _⟩ := sl_slice hx
    exact ⟨_, by simp [Builtin.len_, run_underlying hu, goInt] <;> rfl, RelD.int _ _⟩
  · rename_i e hu
    cases h
    simp only [LV.rel, C.rel] at hx
    cases hx
    exact ⟨_, by simp [Builtin.len_, run_underlying hu, goInt] <;> rfl, RelD.int _ _⟩
  · rename_i e id hu
    split at h
    · rename_i e' sz es hl
      cases h
      simp only [LV.rel, C.rel] at hx
      subst hx
      obtain ⟨xs, ho, _⟩ := hb id _ (lookup_mem hl)
      rcases ho.2 with ⟨hv, h0⟩ | ⟨g, cap, cur, hv, _⟩
      · rw [hv]
        exact ⟨_, by simp [Builtin.len_, run_underlying hu, goInt] <;> rfl, by simp only [LV.rel, C.rel, h0]; exact RelD.int _ _⟩
      · rw [hv]
        exact ⟨_, by simp [Builtin.len_, run_underlying hu, goInt] <;> rfl, RelD.int _ _⟩
    · cases h
  · rename_i s hu
    cases h
    simp only [LV.rel, C.rel] at hx
    obtain ⟨bs, rfl, rfl⟩ := relD_str hx
    refine ⟨_, by simp [Builtin.len_, run_underlying hu, goInt] <;> rfl, ?_⟩
    have : (bs.data.toList.length : Int) = (bs.size : Int) := by rw [Array.length_toList]; rfl
    simp only [LV.rel, C.rel, this]
    exact RelD.int _ _
  · rename_i n e hu
    cases h
    exact ⟨goInt n, by simp [Builtin.len_, run_underlying hu, goInt] <;> rfl, RelD.int _ _⟩
  · cases h

def vExtract (x : LV) (i : Nat) : Option LV :=
  match x with
  | .tup ps => match ps[i]? with
    | some (true, cs) => some (.agg cs)
    | some (false, [c]) => some (.one c)
    | _ => none
  | _ => none

theorem vExtract_sound {x lv : LV} {i : Nat} {u : Value} (h : vExtract x i = some lv) (hx : LV.rel w A M x u) : ∃ r, (Instr.extract u i).run P w = .ok r w ∧ LV.rel w A M lv r := by
  unfold vExtract at h
  split at h
  · rename_i ps
    obtain ⟨arr, rfl, _, hp⟩ := hx
    split at h
    · rename_i cs hi
      cases h
      obtain ⟨v, hv, hr⟩ := hp i _ hi
      exact ⟨v, by simp [Instr.extract, hv], hr⟩
    · rename_i c hi
      cases h
      obtain ⟨v, hv, hr⟩ := hp i _ hi
      exact ⟨v, by simp [Instr.extract, hv], hr⟩
    · cases h
  · cases h

def capsC : List LV → Option (List (Sum Nat D))
  | [] => some []
  | .one (.ref id 0) :: l => (capsC l).map (.inl id :: ·)
  | .one (.dat d) :: l => match d.one with
    | true => (capsC l).map (.inr d :: ·)
    | false => none
  | _ :: _ => none

theorem capsC_rel : ∀ (ls : List LV) (caps : List (Sum Nat D)), capsC ls = some caps → ∀ (f : Nat → Option Value), (∀ (j : Nat) (l : LV), ls[j]? = some l → ∃ u, f j = some u ∧ LV.rel w A M l u) →
    caps.length = ls.length ∧ ∀ (j : Nat) (c : Sum Nat D), caps[j]? = some c → ∃ u, f j = some u ∧ capRel w A M c u
  | [], caps, h, f, _ => by simp [capsC] at h; subst h; simp
  | l :: ls, caps, h, f, hf => by
    obtain ⟨u0, hu0, hr0⟩ := hf 0 l rfl
    have step : ∀ (c0 : Sum Nat D) (r : List (Sum Nat D)), capsC ls = some r → caps = c0 :: r → capRel w A M c0 u0 → caps.length = (l :: ls).length ∧ ∀ (j : Nat) (c : Sum Nat D), caps[j]? = some c → ∃ u, f j = some u ∧ capRel w A M c u := by
      intro c0 r hr hc hc0
      obtain ⟨h3, h4⟩ := capsC_rel ls r hr (fun j => f (j + 1)) (fun j l hl => hf (j + 1) l (by simpa using hl))
      subst hc
      refine ⟨by simp [h3], fun j c hj => ?_⟩
      cases j with
      | zero => simp at hj; subst hj; exact ⟨u0, hu0, hc0⟩
      | succ j => exact h4 j c (by simpa using hj)
    unfold capsC at h
    split at h
    · rename_i hh; cases hh
    · rename_i id l' hh
      cases hh
      simp only [Option.map_eq_some_iff] at h
      obtain ⟨r, hr, rfl⟩ := h
      exact step _ r hr rfl hr0
    · rename_i d l' hh
      cases hh
      split at h
      · simp only [Option.map_eq_some_iff] at h
        obtain ⟨r, hr, rfl⟩ := h
        exact step _ r hr rfl hr0
      · cases h
    · cases h

def vConvert (P : Program) (src dst : TypeId) (x : LV) (h : Option D) : Option (Prop × LV) :=
  match P.underlying src, P.underlying dst, x with
  | some _, some (.int k), .one (.dat (.int _ n)) => some (hintInt k (k.wrap n) h)
  | some _, some .string, .one (.dat (.str s)) => some (True, .one (.dat (.str s)))
  | _, _, _ => none

theorem vConvert_sound {src dst : TypeId} {x lv : LV} {h : Option D} {side : Prop} {u : Value} (hv : vConvert P src dst x h = some (side, lv)) (hs : side) (hx : LV.rel w A M x u) :
    ∃ r, (convert src dst u).run P w = .ok r w ∧ LV.rel w A M lv r := by
  unfold vConvert at hv
  split at hv
  · rename_i d k k' n h1 h2
    simp only [LV.rel, C.rel] at hx
    cases hx
    simp only [Option.some.injEq] at hv
    refine ⟨.int k (k.wrap n), by simp [convert, run_underlying h1, run_underlying h2, Conv.intToInt], ?_⟩
    rw [show lv = (hintInt k (k.wrap n) h).2 by rw [hv]]
    exact hintInt_rel (by rw [hv]; exact hs)
  · rename_i d s h1 h2
    simp only [Option.some.injEq, Prod.mk.injEq] at hv
    obtain ⟨_, rfl⟩ := hv
    have hx' := hx
    simp only [LV.rel, C.rel] at hx
    obtain ⟨bs, rfl, _⟩ := relD_str hx
    exact ⟨.string bs, by cases d <;> simp [convert, run_underlying h1, run_underlying h2], hx'⟩
  · cases hv

def vUn (op : UnOp) (x : LV) (h : Option D) : Option (Prop × LV) :=
  match op, x with
  | .not, .one (.dat (.bool b)) => some (True, .one (.dat (.bool (!b))))
  | .neg, .one (.dat (.int k n)) => some (hintInt k (k.wrap (0 - n)) h)
  | _, _ => none

theorem vUn_sound {op : UnOp} {x lv : LV} {h : Option D} {side : Prop} {u : Value} (hv : vUn op x h = some (side, lv)) (hs : side) (hx : LV.rel w A M x u) :
    ∃ r, (Op.unary op u).run P w = .ok r w ∧ LV.rel w A M lv r := by
  unfold vUn at hv
  split at hv
  · rename_i b
    simp only [LV.rel, C.rel] at hx
    cases hx
    simp only [Option.some.injEq, Prod.mk.injEq] at hv
    obtain ⟨_, rfl⟩ := hv
    exact ⟨.bool (!b), by simp [Op.unary], RelD.bool _⟩
  · rename_i k n
    simp only [LV.rel, C.rel] at hx
    cases hx
    simp only [Option.some.injEq] at hv
    refine ⟨.int k (k.wrap (0 - n)), by simp [Op.unary, Op.intArith], ?_⟩
    rw [show lv = (hintInt k (k.wrap (0 - n)) h).2 by rw [hv]]
    exact hintInt_rel (by rw [hv]; exact hs)
  · cases hv

def vMinMax (isMax : Bool) (x y : LV) : Option LV :=
  match x, y with
  | .one (.dat (.int k a)), .one (.dat (.int _ b)) => match isMax with
    | true => some (.one (.dat (.int k (if b > a then b else a))))
    | false => some (.one (.dat (.int k (if b < a then b else a))))
  | _, _ => none
end
end Go.DL
