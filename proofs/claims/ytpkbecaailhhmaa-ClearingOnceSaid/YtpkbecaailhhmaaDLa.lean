/-
  The data-level framework, part a: data, local values, their relation to the machine's values, and what keeps it. Generic in the program; no condition.
-/
import Derived.ProofKit
import Derived.WalkKit
set_option linter.unusedVariables false
set_option linter.unusedSimpArgs false
namespace Go.DL
open Go.RowKit

/-- Pure data. -/
inductive D where
  | int (k : IntKind) (n : Int)
  | bool (b : Bool)
  | str (s : List UInt8)
  | con (v : Value)
  | sl (sz : Nat) (es : List D)
  | agg (cs : List D)
  | tup (vs : List D)
  | ptr (cs : List D)
  | fn (f : FuncId) (caps : List D)

def D.cells : D → List D
  | .agg cs => cs
  | d => [d]

def flat (es : List D) : List D := es.flatMap D.cells

def D.one : D → Bool
  | .agg _ => false
  | .tup _ => false
  | _ => true

/-- Data that holds no memory. -/
def D.scalar : D → Bool
  | .int _ _ => true
  | .bool _ => true
  | .str _ => true
  | .con _ => true
  | .tup vs => vs.all fun d => match d with | .int _ _ => true | .bool _ => true | .str _ => true | .con _ => true | _ => false
  | _ => false

/-- Value 'v' reads as data in world 'w', and no block of 'A' is read. -/
inductive RelD (w : World) (A : Nat → Prop) : D → Value → Prop
  | int (k : IntKind) (n : Int) : RelD w A (.int k n) (.int k n)
  | bool (b : Bool) : RelD w A (.bool b) (.bool b)
  | str (bs : ByteArray) : RelD w A (.str bs.data.toList) (.string bs)
  | con (v : Value) (h : v.oneCell' = true) : RelD w A (.con v) v
  | sl (sz : Nat) (es : List D) (b off cap : Nat) (vs : Nat → Value) (hlen : es.length ≤ cap) (huni : ∀ e ∈ es, e.cells.length = sz)
      (hmem : ∀ j c, (flat es)[j]? = some c → ¬ A b ∧ w.cell? ⟨b, off + j, none⟩ = some (vs j))
      (hrel : ∀ j c, (flat es)[j]? = some c → RelD w A c (vs j)) : RelD w A (.sl sz es) (.slice (some ⟨b, off, none⟩) es.length cap)
  | sl0 (sz : Nat) (a : Option Addr) (cap : Nat) (h : a = none → cap = 0) : RelD w A (.sl sz []) (.slice a 0 cap)
  | agg (cs : List D) (arr : Array Value) (hs : arr.size = cs.length) (vs : Nat → Value) (hv : ∀ j c, cs[j]? = some c → arr[j]? = some (vs j))
      (hrel : ∀ j c, cs[j]? = some c → RelD w A c (vs j)) : RelD w A (.agg cs) (.agg arr)
  | tup (cs : List D) (arr : Array Value) (hs : arr.size = cs.length) (vs : Nat → Value) (hv : ∀ j c, cs[j]? = some c → arr[j]? = some (vs j))
      (hrel : ∀ j c, cs[j]? = some c → RelD w A c (vs j)) : RelD w A (.tup cs) (.tuple arr)
  | ptr (cs : List D) (b off : Nat) (vs : Nat → Value)
      (hmem : ∀ j c, cs[j]? = some c → ¬ A b ∧ w.cell? ⟨b, off + j, none⟩ = some (vs j))
      (hrel : ∀ j c, cs[j]? = some c → RelD w A c (vs j)) : RelD w A (.ptr cs) (.pointer (some ⟨b, off, none⟩))
  | fn (f : FuncId) (cs : List D) (arr : Array Value) (hs : arr.size = cs.length) (vs : Nat → Value) (hv : ∀ j c, cs[j]? = some c → arr[j]? = some (vs j))
      (hrel : ∀ j c, cs[j]? = some c → RelD w A c (vs j)) : RelD w A (.fn f cs) (.func (.func f) #[] arr)

/-- What a reading met is still there, and still outside of the blocks of A'. -/
def Keeps (w : World) (A : Nat → Prop) (w' : World) (A' : Nat → Prop) : Prop :=
  ∀ b off u, ¬ A b → w.cell? ⟨b, off, none⟩ = some u → ¬ A' b ∧ w'.cell? ⟨b, off, none⟩ = some u

theorem Keeps.refl (w : World) (A : Nat → Prop) : Keeps w A w A := fun _ _ _ h1 h2 => ⟨h1, h2⟩
theorem Keeps.trans {w1 w2 w3 : World} {A1 A2 A3 : Nat → Prop} (h : Keeps w1 A1 w2 A2) (h' : Keeps w2 A2 w3 A3) : Keeps w1 A1 w3 A3 :=
  fun b off u h1 h2 => let ⟨h3, h4⟩ := h b off u h1 h2; h' b off u h3 h4

theorem RelD.mono {w w' : World} {A A' : Nat → Prop} (hk : Keeps w A w' A') {d : D} {v : Value} (h : RelD w A d v) : RelD w' A' d v := by
  induction h with
  | int k n => exact .int k n
  | bool b => exact .bool b
  | str bs => exact .str bs
  | con v h => exact .con v h
  | sl sz es b off cap vs hlen huni hmem _ ih => exact .sl sz es b off cap vs hlen huni (fun j c hj => hk _ _ _ (hmem j c hj).1 (hmem j c hj).2) ih
  | sl0 sz a cap h => exact .sl0 sz a cap h
  | agg cs arr hs vs hv _ ih => exact .agg cs arr hs vs hv ih
  | tup cs arr hs vs hv _ ih => exact .tup cs arr hs vs hv ih
  | ptr cs b off vs hmem _ ih => exact .ptr cs b off vs (fun j c hj => hk _ _ _ (hmem j c hj).1 (hmem j c hj).2) ih
  | fn f cs arr hs vs hv _ ih => exact .fn f cs arr hs vs hv ih

theorem RelD.one {w : World} {A : Nat → Prop} {d : D} {v : Value} (h : RelD w A d v) (ho : d.one = true) : v.oneCell' = true := by
  cases h <;> first | rfl | assumption | (simp [D.one] at ho)

theorem scalar_rel {w w' : World} {A A' : Nat → Prop} {d : D} {v : Value} (h : RelD w A d v) (hs : d.scalar = true) : RelD w' A' d v := by
  cases h with
  | int k n => exact .int k n
  | bool b => exact .bool b
  | str bs => exact .str bs
  | con v h => exact .con v h
  | tup cs arr hsz vs hv hrel =>
    refine .tup cs arr hsz vs hv fun j c hj => ?_
    have h1 := hrel j c hj
    have h2 := List.all_eq_true.1 hs c (List.mem_of_getElem? hj)
    generalize vs j = u at h1 ⊢
    cases h1 with
    | int k n => exact .int k n
    | bool b => exact .bool b
    | str bs => exact .str bs
    | con _ h => exact .con _ h
    | _ => simp at h2
  | _ => simp [D.scalar] at hs

/-- Where an own box lies. -/
structure BMap where
  blk : Nat → Nat
  rv : Nat → Value
  sz : Nat → Nat

/-- A cell of local values. -/
inductive C where
  | dat (d : D)
  | own (id : Nat)
  | ref (id off : Nat)
  | rref (id i off : Nat)
  | fn (f : FuncId) (caps : List (Sum Nat D))
  | junk

def capRel (w : World) (A : Nat → Prop) (M : BMap) : Sum Nat D → Value → Prop
  | .inl id, v => v = .pointer (some ⟨M.blk id, 0, none⟩)
  | .inr d, v => RelD w A d v

def C.rel (w : World) (A : Nat → Prop) (M : BMap) : C → Value → Prop
  | .dat d, v => RelD w A d v
  | .own id, v => v = M.rv id
  | .ref id off, v => v = .pointer (some ⟨M.blk id, off, none⟩)
  | .rref id i off, v => v = .pointer (some ⟨M.blk id, i * M.sz id + off, none⟩)
  | .fn f caps, v => ∃ arr : Array Value, v = .func (.func f) #[] arr ∧ arr.size = caps.length ∧ ∀ (j : Nat) (c : Sum Nat D), caps[j]? = some c → ∃ u, arr[j]? = some u ∧ capRel w A M c u
  | .junk, _ => True

def cellsRel (w : World) (A : Nat → Prop) (M : BMap) (cs : List C) (arr : Array Value) : Prop :=
  arr.size = cs.length ∧ ∀ (j : Nat) (c : C), cs[j]? = some c → ∃ u, arr[j]? = some u ∧ C.rel w A M c u

inductive LV where
  | one (c : C)
  | agg (cs : List C)
  | tup (vs : List (Bool × List C))

def partRel (w : World) (A : Nat → Prop) (M : BMap) : Bool × List C → Value → Prop
  | (true, cs), v => ∃ arr, v = .agg arr ∧ cellsRel w A M cs arr
  | (false, [c]), v => C.rel w A M c v
  | (false, _), _ => True

def LV.rel (w : World) (A : Nat → Prop) (M : BMap) : LV → Value → Prop
  | .one c, v => C.rel w A M c v
  | .agg cs, v => ∃ arr, v = .agg arr ∧ cellsRel w A M cs arr
  | .tup ps, v => ∃ arr : Array Value, v = .tuple arr ∧ arr.size = ps.length ∧ ∀ (j : Nat) (p : Bool × List C), ps[j]? = some p → ∃ u, arr[j]? = some u ∧ partRel w A M p u

inductive Box where
  | var (cs : List C)
  | row (e : TypeId) (sz : Nat) (es : List D)

structure DS where
  sl : List LV
  bx : List (Nat × Box)

def boxBlk (M : BMap) : Nat × Box → Option Nat
  | (id, .var _) => some (M.blk id)
  | (id, .row _ _ _) => (M.rv id).ownBlock

def BoxOK (w : World) (A : Nat → Prop) (M : BMap) (id : Nat) : Box → Prop
  | .var cs => ∃ arr T, w.heap[M.blk id]? = some (.cells arr T (0, 0)) ∧ cellsRel w A M cs arr
  | .row e sz es => ∃ xs : List Value, w.ownsRow 0 e sz (M.rv id) es.length xs ∧ (∀ d ∈ es, d.cells.length = sz) ∧ M.sz id = sz ∧
      (∀ (j : Nat) (c : D), (flat es)[j]? = some c → ∃ v, xs[j]? = some v ∧ RelD w A c v) ∧ (∀ k, (M.rv id).ownBlock = some k → k = M.blk id)

def Av (A0 : Nat → Prop) (M : BMap) (bx : List (Nat × Box)) (b : Nat) : Prop := A0 b ∨ ∃ p ∈ bx, boxBlk M p = some b

/-- What a call (or the part of one) may not change: all that was there, but for the blocks of O. -/
structure Fr (O : Nat → Prop) (w w' : World) : Prop where
  os : w'.os = w.os
  tape : w'.tape = w.tape
  output : w'.output = w.output
  size : w.heap.size ≤ w'.heap.size
  block : ∀ k, k < w.heap.size → ¬ O k → w'.heap[k]? = w.heap[k]?

theorem Fr.refl (O : Nat → Prop) (w : World) : Fr O w w := ⟨rfl, rfl, rfl, Nat.le_refl _, fun _ _ _ => rfl⟩
theorem Fr.below {O : Nat → Prop} {a w w' : World} (h : Fr O a w) (hw : Below w.heap.size w w') : Fr O a w' :=
  ⟨hw.os.trans h.os, hw.tape.trans h.tape, hw.output.trans h.output, Nat.le_trans h.size hw.size, fun k hk ho => (hw.block k (Nat.lt_of_lt_of_le hk h.size)).trans (h.block k hk ho)⟩
theorem Fr.grown {O : Nat → Prop} {a w w' : World} {row : Option Nat} (h : Fr O a w) (hg : w.grownBy w' row) (hr : ∀ k, row = some k → O k ∨ a.heap.size ≤ k) : Fr O a w' :=
  ⟨hg.os.trans h.os, hg.tape.trans h.tape, hg.output.trans h.output, Nat.le_trans h.size hg.size, fun k hk ho =>
    (hg.block k (Nat.lt_of_lt_of_le hk h.size) (fun e => by rcases hr k e.symm with h1 | h1; exact ho h1; omega)).trans (h.block k hk ho)⟩
theorem Fr.toBelow {a w : World} (h : Fr (fun _ => False) a w) : Below a.heap.size a w :=
  ⟨h.os, h.tape, h.output, h.size, fun k hk => h.block k hk fun x => x⟩

/-- Where an activation began: the world; the blocks that it may not read into; the least number of a box of its own; the map, the blocks and the numbers of the boxes that were handed to it. -/
structure Env where
  w0 : World
  A0 : Nat → Prop
  base : Nat
  M0 : BMap
  O : Nat → Prop
  L : Nat → Prop

/-- The boxes of a state are as they are said to be. -/
structure Boxes (E : Env) (M : BMap) (w : World) (bx : List (Nat × Box)) : Prop where
  ok : ∀ id b, (id, b) ∈ bx → BoxOK w (Av E.A0 M bx) M id b
  ids : (bx.map (·.1)).Nodup
  blks : (bx.filterMap (boxBlk M)).Nodup
  new : ∀ p ∈ bx, ∀ k, boxBlk M p = some k → (E.O k ∨ E.w0.heap.size ≤ k) ∧ k < w.heap.size
  foreign : ∀ b, E.A0 b → b < E.w0.heap.size ∧ ¬ E.O b
  frame : Fr E.O E.w0 w
  old : ∀ p ∈ bx, p.1 < E.base → E.L p.1 ∧ M.blk p.1 = E.M0.blk p.1 ∧ M.rv p.1 = E.M0.rv p.1 ∧ M.sz p.1 = E.M0.sz p.1

structure St (E : Env) (M : BMap) (w : World) (a : Act) (s : DS) : Prop where
  defers : a.defers = []
  size : a.tmps.size = s.sl.length
  slots : ∀ t l, s.sl[t]? = some l → LV.rel w (Av E.A0 M s.bx) M l (a.tmps.getD t undef)
  boxes : Boxes E M w s.bx

theorem capRel.mono {w w' : World} {A A' : Nat → Prop} {M : BMap} (hk : Keeps w A w' A') {c : Sum Nat D} {v : Value} (h : capRel w A M c v) : capRel w' A' M c v := by
  cases c with
  | inl id => exact h
  | inr d => exact RelD.mono hk h

theorem C.rel.mono {w w' : World} {A A' : Nat → Prop} {M : BMap} (hk : Keeps w A w' A') {c : C} {v : Value} (h : C.rel w A M c v) : C.rel w' A' M c v := by
  cases c with
  | dat d => exact RelD.mono hk h
  | fn f caps =>
    obtain ⟨arr, h1, h2, h3⟩ := h
    exact ⟨arr, h1, h2, fun j c hj => let ⟨u, hu, hr⟩ := h3 j c hj; ⟨u, hu, hr.mono hk⟩⟩
  | _ => exact h

theorem cellsRel.mono {w w' : World} {A A' : Nat → Prop} {M : BMap} (hk : Keeps w A w' A') {cs : List C} {arr : Array Value} (h : cellsRel w A M cs arr) : cellsRel w' A' M cs arr :=
  ⟨h.1, fun j c hj => let ⟨u, hu, hr⟩ := h.2 j c hj; ⟨u, hu, hr.mono hk⟩⟩

theorem partRel.mono {w w' : World} {A A' : Nat → Prop} {M : BMap} (hk : Keeps w A w' A') {p : Bool × List C} {v : Value} (h : partRel w A M p v) : partRel w' A' M p v := by
  rcases p with ⟨b, cs⟩
  cases b with
  | true => exact let ⟨arr, h1, h2⟩ := h; ⟨arr, h1, h2.mono hk⟩
  | false =>
    match cs, h with
    | [], _ => trivial
    | [c], h => exact C.rel.mono hk h
    | _ :: _ :: _, _ => trivial

theorem LV.rel.mono {w w' : World} {A A' : Nat → Prop} {M : BMap} (hk : Keeps w A w' A') {l : LV} {v : Value} (h : LV.rel w A M l v) : LV.rel w' A' M l v := by
  cases l with
  | one c => exact C.rel.mono hk h
  | agg cs => exact let ⟨arr, h1, h2⟩ := h; ⟨arr, h1, h2.mono hk⟩
  | tup ps => exact let ⟨arr, h1, h2, h3⟩ := h; ⟨arr, h1, h2, fun j p hj => let ⟨u, hu, hr⟩ := h3 j p hj; ⟨u, hu, hr.mono hk⟩⟩

theorem Av_old {E : Env} {M : BMap} {w : World} {bx : List (Nat × Box)} (h : Boxes E M w bx) {b : Nat} (hb : Av E.A0 M bx b) : b < w.heap.size := by
  rcases hb with hb | ⟨p, hp, hk⟩
  · exact Nat.lt_of_lt_of_le (h.foreign b hb).1 h.frame.size
  · exact (h.new p hp b hk).2

/-- New blocks alone. -/
theorem Keeps.below {w w' : World} {A : Nat → Prop} (h : Below w.heap.size w w') : Keeps w A w' A :=
  fun b off u h1 h2 => ⟨h1, by
    have hlt := World.block_lt_of_cell? w ⟨b, off, none⟩ h2
    rw [h.cell (p := ⟨b, off, none⟩) hlt]; exact h2⟩

theorem Keeps.sub {w : World} {A A' : Nat → Prop} (h : ∀ b, A' b → A b) : Keeps w A w A' := fun b _ _ h1 h2 => ⟨fun hb => h1 (h b hb), h2⟩

theorem BoxOK.mono {w w' : World} {A A' : Nat → Prop} {M : BMap} {id : Nat} {bx : Box} (hk : Keeps w A w' A') (hb : ∀ k, boxBlk M (id, bx) = some k → w'.heap[k]? = w.heap[k]?) (h : BoxOK w A M id bx) : BoxOK w' A' M id bx := by
  cases bx with
  | var cs =>
    obtain ⟨arr, T, h1, h2⟩ := h
    exact ⟨arr, T, by rw [hb _ rfl]; exact h1, h2.mono hk⟩
  | row e sz es =>
    obtain ⟨xs, h1, h2, h3, h4, h5⟩ := h
    refine ⟨xs, ?_, h2, h3, fun j c hj => let ⟨v, hv, hr⟩ := h4 j c hj; ⟨v, hv, hr.mono hk⟩, h5⟩
    refine ⟨h1.1, ?_⟩
    rcases h1.2 with hn | ⟨g, cap, cur, hv, hbase, hg, rest⟩
    · exact .inl hn
    · refine .inr ⟨g, cap, cur, hv, hbase, ?_, rest⟩
      rw [hb g (by simp [boxBlk, hv, Value.ownBlock])]
      exact hg

theorem Boxes.below {E : Env} {M : BMap} {w w' : World} {bx : List (Nat × Box)} (h : Boxes E M w bx) (hw : Below w.heap.size w w') : Boxes E M w' bx where
  ok id b hb := (h.ok id b hb).mono (Keeps.below hw) (fun k hk => hw.block k (h.new _ hb k hk).2)
  ids := h.ids
  blks := h.blks
  new p hp k hk := ⟨(h.new p hp k hk).1, Nat.lt_of_lt_of_le (h.new p hp k hk).2 hw.size⟩
  foreign := h.foreign
  frame := h.frame.below hw
  old := h.old

theorem St.below {E : Env} {M : BMap} {w w' : World} {a : Act} {s : DS} (h : St E M w a s) (hw : Below w.heap.size w w') : St E M w' a s :=
  ⟨h.defers, h.size, fun t l hl => (h.slots t l hl).mono (Keeps.below hw), h.boxes.below hw⟩

/-- Writing a slot. -/
def DS.put (s : DS) (dst : Option Tmp) (l : LV) : DS :=
  match dst with
  | some d => { s with sl := s.sl.set d l }
  | none => s

theorem St.put {E : Env} {M : BMap} {w : World} {a : Act} {s : DS} (h : St E M w a s) (dst : Option Tmp) {l : LV} {v : Value} (hl : LV.rel w (Av E.A0 M s.bx) M l v) : St E M w (a.put dst v) (s.put dst l) := by
  cases dst with
  | none => exact h
  | some d =>
    refine ⟨h.defers, by simp [Act.put, DS.put, h.size], fun t m hm => ?_, h.boxes⟩
    simp only [DS.put, List.getElem?_set] at hm
    by_cases hd : d = t
    · subst hd
      rw [if_pos rfl] at hm
      split at hm
      · rename_i hlt
        cases hm
        have : d < a.tmps.size := by rw [h.size]; exact hlt
        simp [Act.put, this]; exact hl
      · cases hm
    · rw [if_neg hd] at hm
      have := h.slots t m hm
      simpa [Act.put, hd, DS.put] using this
end Go.DL
