/-
  The data-level framework, part e: fields, indexes, slices, literals, at the data level. Generic in the program; no condition.
-/
import Derived.Test.YtpkbecaailhhmaaDLd
set_option linter.unusedVariables false
set_option linter.unusedSimpArgs false
namespace Go.DL
open Go.RowKit
section
variable {P : Program} {w : World} {A : Nat → Prop} {M : BMap}

theorem flat_append (a b : List D) : flat (a ++ b) = flat a ++ flat b := by simp [flat]
theorem flat_cons (a : D) (b : List D) : flat (a :: b) = a.cells ++ flat b := by simp [flat]
theorem flat_length {sz : Nat} : ∀ (es : List D), (∀ e ∈ es, e.cells.length = sz) → (flat es).length = es.length * sz
  | [], _ => by simp [flat]
  | e :: es, h => by
    rw [flat_cons, List.length_append, flat_length es (fun x hx => h x (by simp [hx])), h e (by simp)]
    simp [Nat.add_mul, Nat.add_comm]
theorem flat_drop {sz : Nat} : ∀ (es : List D) (l : Nat), (∀ e ∈ es, e.cells.length = sz) → flat (es.drop l) = (flat es).drop (l * sz)
  | es, 0, _ => by simp
  | [], l + 1, _ => by simp [flat]
  | e :: es, l + 1, h => by
    have hl : e.cells.length = sz := h e (by simp)
    rw [List.drop_succ_cons, flat_drop es l (fun x hx => h x (by simp [hx])), flat_cons, Nat.add_mul, Nat.one_mul, Nat.add_comm (l * sz), ← List.drop_drop, ← hl, List.drop_left]
theorem flat_take {sz : Nat} : ∀ (es : List D) (l : Nat), (∀ e ∈ es, e.cells.length = sz) → flat (es.take l) = (flat es).take (l * sz)
  | es, 0, _ => by simp [flat]
  | [], l + 1, _ => by simp [flat]
  | e :: es, l + 1, h => by
    have hl : e.cells.length = sz := h e (by simp)
    rw [List.take_succ_cons, flat_cons, flat_take es l (fun x hx => h x (by simp [hx])), flat_cons, Nat.add_mul, Nat.one_mul, Nat.add_comm (l * sz), ← hl, List.take_length_add_append]
theorem flat_get {sz : Nat} {es : List D} (hu : ∀ e ∈ es, e.cells.length = sz) {i j : Nat} {e c : D} (he : es[i]? = some e) (hc : e.cells[j]? = some c) : (flat es)[i * sz + j]? = some c := by
  have h1 : es = es.take i ++ e :: es.drop (i + 1) := by
    have := List.getElem?_eq_some_iff.1 he
    obtain ⟨hlt, rfl⟩ := this
    rw [List.getElem_cons_drop, List.take_append_drop]
  have hlt := (List.getElem?_eq_some_iff.1 he).1
  have h2 : (flat (es.take i)).length = i * sz := by
    rw [flat_length (sz := sz) _ (fun x hx => hu x (List.mem_of_mem_take hx)), List.length_take, Nat.min_eq_left (by omega)]
  rw [h1, flat_append, flat_cons, List.getElem?_append_right (by omega), h2, Nat.add_sub_cancel_left, List.getElem?_append_left (List.getElem?_eq_some_iff.1 hc).1]
  exact hc
theorem flat_map_agg {α : Type} (f : α → D) (l : List α) : flat (l.map f) = l.flatMap fun x => (f x).cells := by simp [flat, List.flatMap_map]

/-- An element of an immutable slice: its cells lie where they should. -/
theorem sl_elem {sz : Nat} {es : List D} {v : Value} (h : RelD w A (.sl sz es) v) {i : Nat} {e : D} (he : es[i]? = some e) :
    ∃ b off cap, v = .slice (some ⟨b, off, none⟩) es.length cap ∧ e.cells.length = sz ∧
      ∀ (j : Nat) (c : D), e.cells[j]? = some c → ∃ u, ¬ A b ∧ w.cell? ⟨b, off + i * sz + j, none⟩ = some u ∧ RelD w A c u := by
  cases h with
  | sl _ _ b off cap vs hlen huni hmem hrel =>
    refine ⟨b, off, cap, rfl, huni e (List.mem_of_getElem? he), fun j c hc => ?_⟩
    have hf := flat_get huni he hc
    refine ⟨vs (i * sz + j), (hmem _ _ hf).1, ?_, hrel _ _ hf⟩
    rw [Nat.add_assoc]
    exact (hmem _ _ hf).2
  | sl0 => simp at he

/-- A part of an immutable slice. -/
theorem sl_sub {sz : Nat} {es : List D} {a : Option Addr} {n cap : Nat} (h : RelD w A (.sl sz es) (.slice a n cap)) (l k m : Nat) (h1 : l ≤ k) (h2 : k ≤ es.length) (h3 : k ≤ m) (h4 : m ≤ cap) :
    RelD w A (.sl sz ((es.take k).drop l)) (sliced a l k m sz) := by
  generalize hv : (Value.slice a n cap) = v at h
  cases h with
  | sl0 _ a' c hc =>
    cases hv
    simp at h2
    subst h2
    have : l = 0 := by omega
    subst this
    simp only [List.take_nil, List.drop_nil, sliced]
    refine .sl0 _ _ _ fun hn => ?_
    have : a = none := by
      split at hn
      · exact hn
      · simpa using hn
    have := hc this
    omega
  | sl _ _ b off c vs hlen huni hmem hrel =>
    cases hv
    unfold sliced
    by_cases hm : m = l
    · have : k = l := by omega
      subst this
      rw [if_pos hm, Nat.sub_self]
      have : (es.take k).drop k = [] := by simp
      rw [this]
      exact .sl0 _ _ _ (by simp)
    · rw [if_neg hm]
      have hl : ((es.take k).drop l).length = k - l := by simp; omega
      have hadd : (⟨b, off, none⟩ : Addr).add (l * sz) = ⟨b, off + l * sz, none⟩ := Addr.add_mid _ _ _
      rw [Option.map_some, hadd, ← hl]
      have hfl : ∀ j c, (flat ((es.take k).drop l))[j]? = some c → (flat es)[l * sz + j]? = some c := by
        intro j c hj
        rw [flat_drop (sz := sz) _ _ (fun e he => huni e (List.mem_of_mem_take he)), flat_take _ _ huni, List.getElem?_drop, List.getElem?_take] at hj
        split at hj
        · exact hj
        · cases hj
      refine .sl sz _ b (off + l * sz) _ (fun j => vs (l * sz + j)) (by omega) (fun e he => huni e (List.mem_of_mem_take (List.mem_of_mem_drop he))) (fun j c hj => ?_) (fun j c hj => hrel _ _ (hfl j c hj))
      rw [Nat.add_assoc]
      exact hmem _ _ (hfl j c hj)

theorem sl_slice {sz : Nat} {es : List D} {v : Value} (h : RelD w A (.sl sz es) v) : ∃ a cap, v = .slice a es.length cap ∧ es.length ≤ cap := by
  cases h with
  | sl _ _ b off cap vs hlen => exact ⟨_, _, rfl, hlen⟩
  | sl0 _ a cap _ => exact ⟨a, cap, rfl, by simp⟩

/-! ### fields -/
def fieldOff (P : Program) (s : TypeId) (f : Nat) : Option (TypeId × Nat) :=
  match P.underlying s with
  | some (.struct fs) => match fs[f]? with
    | some fl => match P.info? fl.type with
      | some i => match i.size with
        | 0 => none
        | _ + 1 => some (fl.type, fl.offset)
      | none => none
    | none => none
  | _ => none

theorem run_fieldAt_off {s : TypeId} {f : Nat} {t : TypeId} {k : Nat} (h : fieldOff P s f = some (t, k)) (a : Addr) : (Instr.fieldAt s (.pointer (some a)) f).run P w = .ok (.pointer (some (a.add k))) w := by
  unfold fieldOff at h
  split at h
  · rename_i fs hu
    split at h
    · rename_i fl hf
      split at h
      · rename_i i hi
        split at h
        · cases h
        · rename_i n hn
          cases h
          simp [Instr.fieldAt, run_underlying hu, hf, Instr.sureAddr, fieldPlace, sizeOf, typeInfo, hi, hn]
      · cases h
    · cases h
  · cases h

def vFieldAddr (P : Program) (s : TypeId) (x : LV) (f : Nat) : Option LV :=
  match fieldOff P s f, x with
  | some (_, k), .one (.ref id off) => some (.one (.ref id (off + k)))
  | some (_, k), .one (.rref id i off) => some (.one (.rref id i (off + k)))
  | some (_, k), .one (.dat (.ptr cs)) => some (.one (.dat (.ptr (cs.drop k))))
  | _, _ => none

theorem ptr_drop {cs : List D} {b off : Nat} (h : RelD w A (.ptr cs) (.pointer (some ⟨b, off, none⟩))) (k : Nat) : RelD w A (.ptr (cs.drop k)) (.pointer (some ⟨b, off + k, none⟩)) := by
  cases h with
  | ptr _ _ _ vs hmem hrel =>
    refine .ptr _ b (off + k) (fun j => vs (k + j)) (fun j c hj => ?_) (fun j c hj => ?_)
    · rw [List.getElem?_drop] at hj
      rw [Nat.add_assoc]; exact hmem _ _ hj
    · rw [List.getElem?_drop] at hj
      exact hrel _ _ hj

theorem ptr_addr {cs : List D} {v : Value} (h : RelD w A (.ptr cs) v) : ∃ b off, v = .pointer (some ⟨b, off, none⟩) := by
  cases h; exact ⟨_, _, rfl⟩

theorem ptr_cells {cs : List D} {b off : Nat} (h : RelD w A (.ptr cs) (.pointer (some ⟨b, off, none⟩))) (j : Nat) (c : D) (hj : cs[j]? = some c) : ∃ u, w.cell? ⟨b, off + j, none⟩ = some u ∧ RelD w A c u := by
  cases h with
  | ptr _ _ _ vs hmem hrel => exact ⟨_, (hmem j c hj).2, hrel j c hj⟩

theorem vFieldAddr_sound {s : TypeId} {x lv : LV} {f : Nat} {u : Value} (h : vFieldAddr P s x f = some lv) (hx : LV.rel w A M x u) :
    ∃ r, (Instr.fieldAt s u f).run P w = .ok r w ∧ LV.rel w A M lv r := by
  unfold vFieldAddr at h
  split at h
  · rename_i t k id off hf
    cases h
    simp only [LV.rel, C.rel] at hx
    subst hx
    exact ⟨_, run_fieldAt_off hf _, by simp only [LV.rel, C.rel, Addr.add_mid]⟩
  · rename_i t k id i off hf
    cases h
    simp only [LV.rel, C.rel] at hx
    subst hx
    exact ⟨_, run_fieldAt_off hf _, by simp only [LV.rel, C.rel, Addr.add_mid, Nat.add_assoc]⟩
  · rename_i t k cs hf
    cases h
    simp only [LV.rel, C.rel] at hx
    obtain ⟨b, off, rfl⟩ := ptr_addr hx
    exact ⟨_, run_fieldAt_off hf _, by simp only [LV.rel, C.rel, Addr.add_mid]; exact ptr_drop hx k⟩
  · cases h

/-- A part of an aggregate. -/
def vPart (P : Program) (t : TypeId) (cs : List C) (off : Nat) : Option LV := loadC P t cs off

theorem vPart_sound {t : TypeId} {cs : List C} {off : Nat} {lv : LV} {arr : Array Value} (h : vPart P t cs off = some lv) (hc : cellsRel w A M cs arr) :
    ∃ r, (part t arr off).run P w = .ok r w ∧ LV.rel w A M lv r := by
  unfold vPart loadC at h
  cases hu : P.underlying t with
  | none => simp [hu] at h
  | some d =>
    cases hi : P.info? t with
    | none => simp [hu, hi] at h
    | some i =>
      simp only [hu, hi] at h
      cases hd : d.isRow with
      | true =>
        simp only [hd] at h
        cases hle : Nat.ble (off + i.size) cs.length with
        | false => simp [hle] at h
        | true =>
          simp only [hle, Option.some.injEq] at h
          subst h
          have hle' : off + i.size ≤ cs.length := Nat.le_of_ble_eq_true hle
          have hagg : (isAgg t).run P w = .ok true w := by
            unfold isAgg
            rw [Sem.run_bind, run_underlying hu w]
            cases d <;> simp_all [TypeDesc.isRow]
          refine ⟨.agg (arr.extract off (off + i.size)), by simp [part, hagg, sizeOf, typeInfo, hi], _, rfl, ?_, fun j c hj => ?_⟩
          · have := hc.1
            simp; omega
          · rw [List.getElem?_take] at hj
            split at hj
            · rename_i hlt
              rw [List.getElem?_drop] at hj
              obtain ⟨u, hu1, hu2⟩ := hc.2 _ _ hj
              refine ⟨u, ?_, hu2⟩
              rw [Array.getElem?_extract, if_pos (by have := hc.1; omega)]
              exact hu1
            · cases hj
      | false =>
        simp only [hd, Option.map_eq_some_iff] at h
        obtain ⟨c, hc1, rfl⟩ := h
        obtain ⟨u, hu1, hu2⟩ := hc.2 _ _ hc1
        exact ⟨u, run_part_one hu hd hu1, hu2⟩

def vField (P : Program) (t : TypeId) (x : LV) (f : Nat) : Option LV :=
  match P.underlying t, x with
  | some (.struct fs), .agg cs => match fs[f]? with
    | some fl => vPart P fl.type cs fl.offset
    | none => none
  | _, _ => none

theorem vField_sound {t : TypeId} {x lv : LV} {f : Nat} {u : Value} (h : vField P t x f = some lv) (hx : LV.rel w A M x u) :
    ∃ r, (Instr.field t u f).run P w = .ok r w ∧ LV.rel w A M lv r := by
  unfold vField at h
  split at h
  · rename_i fs cs hu
    obtain ⟨arr, rfl, hc⟩ := hx
    split at h
    · rename_i fl hf
      obtain ⟨r, h1, h2⟩ := vPart_sound h hc
      exact ⟨r, by simp [Instr.field, run_underlying hu, hf, asAgg, h1], h2⟩
    · cases h
  · cases h

/-! ### indexes -/
def vIndexAddr (P : Program) (t : TypeId) (bx : List (Nat × Box)) (x i : LV) (h : Option D) : Option (Prop × LV) :=
  match P.underlying t, x, i with
  | some (.slice e), .one (.dat (.sl sz es)), .one (.dat (.int _ n)) => match P.info? e, h with
    | some ie, some d => match ie.size == sz with
      | true => some (0 ≤ n ∧ es[n.toNat]? = some d, .one (.dat (.ptr d.cells)))
      | false => none
    | _, _ => none
  | some (.slice e), .one (.own id), .one (.dat (.int _ n)) => match P.info? e, bx.lookup id with
    | some ie, some (.row _ sz es) => match ie.size == sz with
      | true => some (0 ≤ n ∧ n < (es.length : Int), .one (.rref id n.toNat 0))
      | false => none
    | _, _ => none
  | some (.array len e), .one (.ref id off), .one (.dat (.int _ n)) => match P.info? e, h with
    | some ie, some (.int _ (.ofNat m)) => match Nat.blt m len with
      | true => some (n = m, .one (.ref id (off + m * ie.size)))
      | false => none
    | _, _ => none
  | some (.array len e), .one (.dat (.ptr cs)), .one (.dat (.int _ n)) => match P.info? e, h with
    | some ie, some (.int _ (.ofNat m)) => match Nat.blt m len with
      | true => some (n = m, .one (.dat (.ptr (cs.drop (m * ie.size)))))
      | false => none
    | _, _ => none
  | _, _, _ => none

theorem lookup_mem {bx : List (Nat × Box)} {id : Nat} {b : Box} (h : bx.lookup id = some b) : (id, b) ∈ bx := by
  induction bx with
  | nil => simp at h
  | cons p l ih =>
    obtain ⟨k, x⟩ := p
    simp only [List.lookup_cons] at h
    split at h
    · rename_i hk
      cases h
      have : id = k := by simpa using hk
      subst this
      simp
    · exact List.mem_cons_of_mem _ (ih h)

theorem vIndexAddr_sound {t : TypeId} {bx : List (Nat × Box)} {x i lv : LV} {h : Option D} {side : Prop} {u v : Value} (hv : vIndexAddr P t bx x i h = some (side, lv)) (hs : side)
    (hb : ∀ id b, (id, b) ∈ bx → BoxOK w A M id b) (hx : LV.rel w A M x u) (hi : LV.rel w A M i v) :
    ∃ r, (Instr.indexAt t u v).run P w = .ok r w ∧ LV.rel w A M lv r := by
  unfold vIndexAddr at hv
  split at hv
  · rename_i e sz es k n hu
    split at hv
    · rename_i ie d hie
      split at hv
      · rename_i hsz
        simp only [Option.some.injEq, Prod.mk.injEq] at hv
        obtain ⟨h1, rfl⟩ := hv
        rw [← h1] at hs
        have hsz' : ie.size = sz := by simpa using hsz
        simp only [LV.rel, C.rel] at hx hi
        cases hi
        obtain ⟨b, off, cap, rfl, hcl, hc⟩ := sl_elem hx hs.2
        have hlt := (List.getElem?_eq_some_iff.1 hs.2).1
        refine ⟨.pointer (some ⟨b, off + n.toNat * sz, none⟩), ?_, ?_⟩
        · have : 0 ≤ n ∧ n < (es.length : Int) := by omega
          simp [Instr.indexAt, run_underlying hu, asIntOf, this, sizeOf, typeInfo, hie, hsz', Addr.add_mid]
        · have hc' : ∀ j : Nat, ∃ u, ∀ c, d.cells[j]? = some c → ¬ A b ∧ w.cell? ⟨b, off + n.toNat * sz + j, none⟩ = some u ∧ RelD w A c u := by
            intro j
            cases hj : d.cells[j]? with
            | none => exact ⟨undef, fun c hc => by cases hc⟩
            | some c => obtain ⟨u, hu⟩ := hc j c hj; exact ⟨u, fun c' hc' => by cases hc'; exact hu⟩
          exact .ptr _ b _ (fun j => (hc' j).choose) (fun j c hj => ⟨((hc' j).choose_spec c hj).1, ((hc' j).choose_spec c hj).2.1⟩) (fun j c hj => ((hc' j).choose_spec c hj).2.2)
      · cases hv
    · cases hv
  · rename_i e id k n hu
    split at hv
    · rename_i ie e' sz es hie hl
      split at hv
      · rename_i hsz
        simp only [Option.some.injEq, Prod.mk.injEq] at hv
        obtain ⟨h1, rfl⟩ := hv
        rw [← h1] at hs
        have hsz' : ie.size = sz := by simpa using hsz
        simp only [LV.rel, C.rel] at hx hi
        cases hi
        obtain ⟨xs, ho, _, hM, _, hblk⟩ := hb id _ (lookup_mem hl)
        rcases ho.2 with ⟨_, h0⟩ | ⟨g, cap, cur, hrv, _, hg, hnc, _⟩
        · omega
        · have hgb : g = M.blk id := hblk g (by rw [hrv]; rfl)
          subst hgb
          rw [hrv] at hx
          subst hx
          refine ⟨.pointer (some ⟨M.blk id, n.toNat * sz, none⟩), ?_, ?_⟩
          · simp [Instr.indexAt, run_underlying hu, asIntOf, hs, sizeOf, typeInfo, hie, hsz', Addr.add_mid]
          · simp only [LV.rel, C.rel, hM, Nat.add_zero]
      · cases hv
    · cases hv
  · rename_i len e id off k n hu
    split at hv
    · rename_i ie k' m hie
      split at hv
      · rename_i hlt
        simp only [Option.some.injEq, Prod.mk.injEq] at hv
        obtain ⟨h1, rfl⟩ := hv
        rw [← h1] at hs
        have hlt' : m < len := by simpa [Nat.blt_eq] using hlt
        simp only [LV.rel, C.rel] at hx hi
        cases hi
        subst hx
        subst hs
        refine ⟨.pointer (some ⟨M.blk id, off + m * ie.size, none⟩), ?_, by simp only [LV.rel, C.rel]⟩
        simp [Instr.indexAt, run_underlying hu, asIntOf, Instr.sureAddr, hlt', sizeOf, typeInfo, hie, Addr.add_mid]
      · cases hv
    · cases hv
  · rename_i len e cs k n hu
    split at hv
    · rename_i ie k' m hie
      split at hv
      · rename_i hlt
        simp only [Option.some.injEq, Prod.mk.injEq] at hv
        obtain ⟨h1, rfl⟩ := hv
        rw [← h1] at hs
        have hlt' : m < len := by simpa [Nat.blt_eq] using hlt
        simp only [LV.rel, C.rel] at hx hi
        cases hi
        obtain ⟨b, off, rfl⟩ := ptr_addr hx
        subst hs
        refine ⟨.pointer (some ⟨b, off + m * ie.size, none⟩), ?_, ?_⟩
        · simp [Instr.indexAt, run_underlying hu, asIntOf, Instr.sureAddr, hlt', sizeOf, typeInfo, hie, Addr.add_mid]
        · simp only [LV.rel, C.rel]; exact ptr_drop hx _
      · cases hv
    · cases hv
  · cases hv

/-- s[i] of a string (the hint is the byte); a[i] of an array that is a value. -/
def vIndex (P : Program) (t : TypeId) (x i : LV) (h : Option D) : Option (Prop × LV) :=
  match P.underlying t, x, i with
  | some .string, .one (.dat (.str s)), .one (.dat (.int _ n)) => match h with
    | some (.str [b]) => some (0 ≤ n ∧ s[n.toNat]? = some b, .one (.dat (.int .u8 (b.toNat : Int))))
    | _ => none
  | some (.array len e), .agg cs, .one (.dat (.int _ n)) => match P.info? e, h with
    | some ie, some (.int _ (.ofNat m)) => match Nat.blt m len with
      | true => (vPart P e cs (m * ie.size)).map fun lv => (n = m, lv)
      | false => none
    | _, _ => none
  | _, _, _ => none

theorem vIndex_sound {t : TypeId} {x i lv : LV} {h : Option D} {side : Prop} {u v : Value} (hv : vIndex P t x i h = some (side, lv)) (hs : side)
    (hx : LV.rel w A M x u) (hi : LV.rel w A M i v) :
    ∃ r, (Instr.index t u v).run P w = .ok r w ∧ LV.rel w A M lv r := by
  unfold vIndex at hv
  split at hv
  · rename_i s k n hu
    split at hv
    · rename_i b
      simp only [Option.some.injEq, Prod.mk.injEq] at hv
      obtain ⟨h1, rfl⟩ := hv
      rw [← h1] at hs
      simp only [LV.rel, C.rel] at hx hi
      cases hi
      obtain ⟨bs, rfl, rfl⟩ := relD_str hx
      refine ⟨.int .u8 b.toNat, ?_, RelD.int _ _⟩
      obtain ⟨hlt, hget⟩ := List.getElem?_eq_some_iff.1 hs.2
      have hlt' : n.toNat < bs.size := by simpa using hlt
      have hg : bs[n.toNat]? = some b := by
        rw [getElem?_pos bs n.toNat hlt']
        congr 1
      simp [Instr.index, run_underlying hu, asIntOf, hs.1, hg]
    · cases hv
  · rename_i len e cs k n hu
    split at hv
    · rename_i ie k' m hie
      split at hv
      · rename_i hlt
        simp only [Option.map_eq_some_iff, Prod.mk.injEq] at hv
        obtain ⟨lv', hp, h1, rfl⟩ := hv
        rw [← h1] at hs
        have hlt' : m < len := by simpa [Nat.blt_eq] using hlt
        simp only [LV.rel, C.rel] at hi
        obtain ⟨arr, rfl, hc⟩ := hx
        cases hi
        subst hs
        obtain ⟨r, h1, h2⟩ := vPart_sound hp hc
        refine ⟨r, ?_, h2⟩
        simp [Instr.index, run_underlying hu, asIntOf, hlt', sizeOf, typeInfo, hie, h1]
      · cases hv
    · cases hv
  · cases hv

/-! ### slices -/
def optInt : Option LV → Option (Option Int)
  | none => some none
  | some (.one (.dat (.int _ n))) => some (some n)
  | _ => none

def subSide (n : Nat) (lo hi mx : Option Int) : Prop :=
  match lo, hi, mx with
  | none, none, _ => True
  | some l, none, _ => 0 ≤ l ∧ l ≤ n
  | none, some h, none => 0 ≤ h ∧ h ≤ n
  | some l, some h, none => 0 ≤ l ∧ l ≤ h ∧ h ≤ n
  | none, some h, some m => 0 ≤ h ∧ h ≤ m ∧ m ≤ n
  | some l, some h, some m => 0 ≤ l ∧ l ≤ h ∧ h ≤ m ∧ m ≤ n

def subList {α : Type} (es : List α) (lo hi : Option Int) : List α :=
  match lo, hi with
  | none, none => es
  | some l, none => es.drop l.toNat
  | none, some h => es.take h.toNat
  | some l, some h => (es.take h.toNat).drop l.toNat

def vSlice (P : Program) (t : TypeId) (x : LV) (lo hi mx : Option LV) : Option (Prop × LV) :=
  match P.underlying t, x, optInt lo, optInt hi, optInt mx with
  | some (.slice e), .one (.dat (.sl sz es)), some l, some h, some m => match P.info? e with
    | some ie => match ie.size == sz, h, m with
      | true, none, some _ => none
      | true, _, _ => some (subSide es.length l h m, .one (.dat (.sl sz (subList es l h))))
      | false, _, _ => none
    | none => none
  | some .string, .one (.dat (.str s)), some l, some h, some none => some (subSide s.length l h none, .one (.dat (.str (subList s l h))))
  | _, _, _, _, _ => none

theorem optInt_some {lo : Option LV} {l : Option Int} {f : LV → Value} {g : Option Value} (h : optInt lo = some l) (hg : ∀ x, lo = some x → ∃ u, g = some u ∧ LV.rel w A M x u) (hn : lo = none → g = none) :
    (l = none ∧ g = none) ∨ ∃ k n, l = some n ∧ g = some (.int k n) := by
  cases lo with
  | none => simp only [optInt, Option.some.injEq] at h; exact .inl ⟨h.symm, hn rfl⟩
  | some x =>
    obtain ⟨u, hu, hr⟩ := hg x rfl
    unfold optInt at h
    split at h
    · rename_i hh; cases hh
    · rename_i k n hh
      cases hh
      cases h
      simp only [LV.rel, C.rel] at hr
      cases hr
      exact .inr ⟨_, _, rfl, hu⟩
    · cases h

theorem vSlice_sound {t : TypeId} {x lv : LV} {lo hi mx : Option LV} {side : Prop} {u : Value} {glo ghi gmx : Option Value} (hv : vSlice P t x lo hi mx = some (side, lv)) (hs : side)
    (hx : LV.rel w A M x u)
    (h1 : ∀ y, lo = some y → ∃ u, glo = some u ∧ LV.rel w A M y u) (n1 : lo = none → glo = none)
    (h2 : ∀ y, hi = some y → ∃ u, ghi = some u ∧ LV.rel w A M y u) (n2 : hi = none → ghi = none)
    (h3 : ∀ y, mx = some y → ∃ u, gmx = some u ∧ LV.rel w A M y u) (n3 : mx = none → gmx = none) :
    ∃ r, (Instr.sliceAt t u glo ghi gmx).run P w = .ok r w ∧ LV.rel w A M lv r := by
  unfold vSlice at hv
  split at hv
  · rename_i e sz es l h m hu hl hh hm
    have hel : P.underlying t = some (.slice (P.elem t)) := by simp [Program.elem, hu]
    have helem : P.elem t = e := by simp [Program.elem, hu]
    split at hv
    · rename_i ie hie
      simp only [LV.rel, C.rel] at hx
      obtain ⟨a, cap, rfl, hcap⟩ := sl_slice hx
      have hso : (sizeOf (P.elem t)).run P w = .ok ie.size w := by rw [helem]; simp [sizeOf, typeInfo, hie]
      have L := optInt_some (f := fun _ => undef) hl h1 n1
      have H := optInt_some (f := fun _ => undef) hh h2 n2
      have Mx := optInt_some (f := fun _ => undef) hm h3 n3
      rw [run_sliceAt_slice w t _ _ _ _ hel]
      split at hv
      · cases hv
      · rename_i hsz hnot
        have hsz' : ie.size = sz := by simpa using hsz
        subst hsz'
        simp only [Option.some.injEq, Prod.mk.injEq] at hv
        obtain ⟨e1, rfl⟩ := hv
        rw [← e1] at hs
        rcases L with ⟨rfl, rfl⟩ | ⟨kl, l, rfl, rfl⟩ <;> rcases H with ⟨rfl, rfl⟩ | ⟨kh, h, rfl, rfl⟩ <;> rcases Mx with ⟨rfl, rfl⟩ | ⟨km, m, rfl, rfl⟩ <;> simp only [subSide] at hs
        · refine ⟨_, by rw [run_slice_all w t a es.length cap hel, hso]; rfl, ?_⟩
          have := sl_sub hx 0 es.length cap (by omega) (by omega) hcap (by omega)
          simpa [subList, LV.rel, C.rel] using this
        · exact (hnot _ rfl rfl).elim
        · refine ⟨_, by rw [run_slice_h w t a es.length cap hel kh h hs.1 (by omega), hso]; rfl, ?_⟩
          have := sl_sub hx 0 h.toNat cap (by omega) (by omega) (by omega) (by omega)
          simpa [subList, LV.rel, C.rel] using this
        · refine ⟨_, by rw [run_slice_hm w t a es.length cap hel kh km h m hs.1 hs.2.1 (by omega), hso]; rfl, ?_⟩
          have := sl_sub hx 0 h.toNat m.toNat (by omega) (by omega) (by omega) (by omega)
          simpa [subList, LV.rel, C.rel] using this
        · refine ⟨_, by rw [run_slice_l w t a es.length cap hel kl l hs.1 hs.2, hso]; rfl, ?_⟩
          have := sl_sub hx l.toNat es.length cap (by omega) (by omega) hcap (by omega)
          simpa [subList, LV.rel, C.rel] using this
        · exact (hnot _ rfl rfl).elim
        · refine ⟨_, by rw [run_slice_lh w t a es.length cap hel kl kh l h hs.1 hs.2.1 (by omega), hso]; rfl, ?_⟩
          have := sl_sub hx l.toNat h.toNat cap (by omega) (by omega) (by omega) (by omega)
          simpa [subList, LV.rel, C.rel] using this
        · refine ⟨_, by rw [run_slice_lhm w t a es.length cap hel kl kh km l h m hs.1 hs.2.1 hs.2.2.1 (by omega), hso]; rfl, ?_⟩
          have := sl_sub hx l.toNat h.toNat m.toNat (by omega) (by omega) (by omega) (by omega)
          simpa [subList, LV.rel, C.rel] using this
      · cases hv
    · cases hv
  · rename_i s l h hu hl hh hm
    simp only [LV.rel, C.rel] at hx
    obtain ⟨bs, rfl, rfl⟩ := relD_str hx
    have L := optInt_some (f := fun _ => undef) hl h1 n1
    have H := optInt_some (f := fun _ => undef) hh h2 n2
    have Mx := optInt_some (f := fun _ => undef) hm h3 n3
    have hsize : bs.data.toList.length = bs.size := Array.length_toList
    simp only [Option.some.injEq, Prod.mk.injEq] at hv
    obtain ⟨e1, rfl⟩ := hv
    rw [← e1, hsize] at hs
    rcases Mx with ⟨_, rfl⟩ | ⟨km, m, hbad, _⟩
    · have hex : ∀ (x y : Nat), (bs.extract x y).data.toList = (bs.data.toList.take y).drop x := by
        intro x y
        rw [ByteArray.data_extract, Array.toList_extract]
        simp [List.drop_take, List.extract]
      have mk : ∀ (x y : Nat) (z : List UInt8), (bs.data.toList.take y).drop x = z → LV.rel w A M (.one (.dat (.str z))) (.string (bs.extract x y)) := by
        intro x y z hz
        rw [← hz, ← hex]
        exact RelD.str _
      have hfull : bs.data.toList.take bs.size = bs.data.toList := by rw [← hsize]; exact List.take_length
      rcases L with ⟨rfl, rfl⟩ | ⟨kl, l, rfl, rfl⟩ <;> rcases H with ⟨rfl, rfl⟩ | ⟨kh, h, rfl, rfl⟩ <;> simp only [subSide] at hs
      · refine ⟨.string (bs.extract 0 bs.size), by simp [Instr.sliceAt, Instr.slice, run_underlying hu, Instr.sliceBounds], mk _ _ _ (by simp [subList, hfull])⟩
      · refine ⟨.string (bs.extract 0 h.toNat), by simp [Instr.sliceAt, Instr.slice, run_underlying hu, Instr.sliceBounds, run_sliceBound w kh h bs.size _ hs.1 hs.2], mk _ _ _ (by simp [subList])⟩
      · refine ⟨.string (bs.extract l.toNat bs.size), by simp [Instr.sliceAt, Instr.slice, run_underlying hu, Instr.sliceBounds, run_sliceBound w kl l bs.size _ hs.1 hs.2], mk _ _ _ (by simp [subList, hfull])⟩
      · have hh0 : 0 ≤ h := by omega
        refine ⟨.string (bs.extract l.toNat h.toNat), ?_, mk _ _ _ (by simp [subList])⟩
        have e2 := run_sliceBound (P := P) w kh h bs.size .sliceAlen hh0 (by omega)
        have e3 := run_sliceBound (P := P) w kl l h.toNat .sliceB hs.1 (by omega)
        simp [Instr.sliceAt, Instr.slice, run_underlying hu, Instr.sliceBounds, e2, e3]
    · cases hbad
  · cases hv
end
end Go.DL
