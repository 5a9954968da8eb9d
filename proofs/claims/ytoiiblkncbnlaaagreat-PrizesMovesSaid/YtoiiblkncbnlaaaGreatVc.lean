/-
  Texts that belong together, one behind the other; what each of them proves, and under which conditions, its own heading says.
-/
import Derived.Test.YtoiiblkncbnlaaaGreatRows
import Derived.RangeFuncNested
import Derived.RangeFuncBound
import Derived.RangeFuncCalls
import Derived.RangeFuncLeaves
import Derived.Shelf.Abstract
import Derived.Shelf.RegionOpen
import Derived.WalkKit
import Derived.OwnWalkIn
import Derived.TacticsInMore
import Derived.LoopNIn
import Derived.LoopIn
import Derived.Shelf.SlSortCmp.WholeK
import Derived.Shelf.SlicesG.Cmp
import Derived.Shelf.SlIterI.Sorted
import Derived.Shelf.SlIterI.Keys
import Derived.Shelf.SortM.Plain
import Derived.Shelf.SortM.SortNone
import Derived.Ground.SlsfProg
import Derived.Ground.SlgcProg
import Derived.Ground.GgzProg
import Derived.Ground.SlgmProg
import Derived.Test.YtoiiblkncbnlaaaGreatProg
import Derived.Shelf.RegionOpenPlain
import Derived.OpenShut
import Derived.StillTailTactics
import Derived.Shelf.Bits.Mul64
import Derived.Ground.NamesProg
import Derived.Test.YtoiiblkncbnlaaaGreatVb
/-
  Walks at the data level, printed by gen.py: what each Go function returns, for data that reads as said. Conditions: those of each theorem.
-/
namespace Go.Proofs.YtoiiblkncbnlaaaGreat
open Go.DL
set_option maxRecDepth 100000
set_option maxHeartbeats 4000000
set_option linter.unusedVariables false
set_option linter.unusedSimpArgs false
theorem ret_chkM (n : Int) : Ret Tryz.prog 54 [(I n)] (I (chkM n)) := by
  refine Ret.of_T Tryz.func54 (by kernel_rfl) rfl ?_
  refine T_turn [] [0] [] (mk 9 [(0, (dt (I n)))] []) (by kernel_rfl) ?_
  refine T_reg [] [0] [] (mk 9 [(0, (dt (I n)))] []) (True ∧ True ∧ True) (by kernel_rfl) ⟨trivial, trivial, trivial⟩ ?_
  refine T_seq ?_
  rcases Bool.eq_false_or_eq_true (decide (n > 1125899906842624)) with h1 | h1
  · skip
    have g2 : n > 1125899906842624 := of_decide_eq_true (h1)
    refine T_reg [{}, {}, {}, { g := false }, { g := false }, { d := some (B true) }] [8] [] (mk 9 [(8, (dt (B true)))] []) (True ∧ True ∧ True ∧ True ∧ True ∧ True ∧ (((decide (n > 1125899906842624)) == false) = false) ∧ (((decide (n > 1125899906842624)) == false) = false) ∧ True ∧ ((decide (n > 1125899906842624)) = true) ∧ True) (by kernel_rfl) ⟨trivial, trivial, trivial, trivial, trivial, trivial, (by rw [show (decide (n > 1125899906842624)) = true from h1]; rfl), (by rw [show (decide (n > 1125899906842624)) = true from h1]; rfl), trivial, h1, trivial⟩ ?_
    refine T_cond true (by kernel_rfl) (fun _ => ?_) (fun h => absurd (h.symm.trans rfl) (by decide))
    refine T_reg [] [2] [] (mk 9 [(2, (dt (I 50)))] []) (True ∧ True ∧ True) (by kernel_rfl) ⟨trivial, trivial, trivial⟩ ?_
    refine T_ret ?_
    exact ret_here [(dt (I 50))] (by kernel_rfl) (.inl (congrArg I (by first | (rw [chkM, if_pos (by omega)]; done) | (rw [chkM, if_neg (by omega)]; done) : 50 = (chkM n))))
  · skip
    have g3 : ¬ (n > 1125899906842624) := of_decide_eq_false (h1)
    refine T_reg [{}, {}, {}, {}, {}, { d := some (B false) }] [8] [] (mk 9 [(8, (dt (B (decide (n < (-1125899906842624))))))] []) (True ∧ True ∧ True ∧ True ∧ True ∧ True ∧ (((decide (n > 1125899906842624)) == false) = true) ∧ True ∧ (((decide (n > 1125899906842624)) == false) = true) ∧ True ∧ True ∧ ((decide (n > 1125899906842624)) = false) ∧ True) (by kernel_rfl) ⟨trivial, trivial, trivial, trivial, trivial, trivial, (by rw [show (decide (n > 1125899906842624)) = false from h1]; rfl), trivial, (by rw [show (decide (n > 1125899906842624)) = false from h1]; rfl), trivial, trivial, h1, trivial⟩ ?_
    refine T_cond (decide (n < (-1125899906842624))) (by kernel_rfl) (fun h4 => ?_) (fun h4 => ?_)
    · skip
      have g5 : n < (-1125899906842624) := of_decide_eq_true (h4)
      refine T_reg [] [2] [] (mk 9 [(2, (dt (I 50)))] []) (True ∧ True ∧ True) (by kernel_rfl) ⟨trivial, trivial, trivial⟩ ?_
      refine T_ret ?_
      exact ret_here [(dt (I 50))] (by kernel_rfl) (.inl (congrArg I (by first | (rw [chkM, if_pos (by omega)]; done) | (rw [chkM, if_neg (by omega)]; done) : 50 = (chkM n))))
    · skip
      have g6 : ¬ (n < (-1125899906842624)) := of_decide_eq_false (h4)
      refine T_skip ?_
      refine T_reg [] [2] [] (mk 9 [(2, (dt (I 0)))] []) (True ∧ True ∧ True) (by kernel_rfl) ⟨trivial, trivial, trivial⟩ ?_
      refine T_ret ?_
      exact ret_here [(dt (I 0))] (by kernel_rfl) (.inl (congrArg I (by first | (rw [chkM, if_pos (by omega)]; done) | (rw [chkM, if_neg (by omega)]; done) : 0 = (chkM n))))

theorem ret_chkMR (n : Int) : Ret Tryz.prog 63 [(I n)] (I (chkM n)) := by
  refine Ret.of_T Tryz.func63 (by kernel_rfl) rfl ?_
  refine T_turn [] [0] [] (mk 9 [(0, (dt (I n)))] []) (by kernel_rfl) ?_
  refine T_reg [] [0] [] (mk 9 [(0, (dt (I n)))] []) (True ∧ True ∧ True) (by kernel_rfl) ⟨trivial, trivial, trivial⟩ ?_
  refine T_seq ?_
  rcases Bool.eq_false_or_eq_true (decide (n > 1125899906842624)) with h1 | h1
  · skip
    have g2 : n > 1125899906842624 := of_decide_eq_true (h1)
    refine T_reg [{}, {}, {}, { g := false }, { g := false }, { d := some (B true) }] [8] [] (mk 9 [(8, (dt (B true)))] []) (True ∧ True ∧ True ∧ True ∧ True ∧ True ∧ (((decide (n > 1125899906842624)) == false) = false) ∧ (((decide (n > 1125899906842624)) == false) = false) ∧ True ∧ ((decide (n > 1125899906842624)) = true) ∧ True) (by kernel_rfl) ⟨trivial, trivial, trivial, trivial, trivial, trivial, (by rw [show (decide (n > 1125899906842624)) = true from h1]; rfl), (by rw [show (decide (n > 1125899906842624)) = true from h1]; rfl), trivial, h1, trivial⟩ ?_
    refine T_cond true (by kernel_rfl) (fun _ => ?_) (fun h => absurd (h.symm.trans rfl) (by decide))
    refine T_reg [] [2] [] (mk 9 [(2, (dt (I 50)))] []) (True ∧ True ∧ True) (by kernel_rfl) ⟨trivial, trivial, trivial⟩ ?_
    refine T_ret ?_
    exact ret_here [(dt (I 50))] (by kernel_rfl) (.inl (congrArg I (by first | (rw [chkM, if_pos (by omega)]; done) | (rw [chkM, if_neg (by omega)]; done) : 50 = (chkM n))))
  · skip
    have g3 : ¬ (n > 1125899906842624) := of_decide_eq_false (h1)
    refine T_reg [{}, {}, {}, {}, {}, { d := some (B false) }] [8] [] (mk 9 [(8, (dt (B (decide (n < (-1125899906842624))))))] []) (True ∧ True ∧ True ∧ True ∧ True ∧ True ∧ (((decide (n > 1125899906842624)) == false) = true) ∧ True ∧ (((decide (n > 1125899906842624)) == false) = true) ∧ True ∧ True ∧ ((decide (n > 1125899906842624)) = false) ∧ True) (by kernel_rfl) ⟨trivial, trivial, trivial, trivial, trivial, trivial, (by rw [show (decide (n > 1125899906842624)) = false from h1]; rfl), trivial, (by rw [show (decide (n > 1125899906842624)) = false from h1]; rfl), trivial, trivial, h1, trivial⟩ ?_
    refine T_cond (decide (n < (-1125899906842624))) (by kernel_rfl) (fun h4 => ?_) (fun h4 => ?_)
    · skip
      have g5 : n < (-1125899906842624) := of_decide_eq_true (h4)
      refine T_reg [] [2] [] (mk 9 [(2, (dt (I 50)))] []) (True ∧ True ∧ True) (by kernel_rfl) ⟨trivial, trivial, trivial⟩ ?_
      refine T_ret ?_
      exact ret_here [(dt (I 50))] (by kernel_rfl) (.inl (congrArg I (by first | (rw [chkM, if_pos (by omega)]; done) | (rw [chkM, if_neg (by omega)]; done) : 50 = (chkM n))))
    · skip
      have g6 : ¬ (n < (-1125899906842624)) := of_decide_eq_false (h4)
      refine T_skip ?_
      refine T_reg [] [2] [] (mk 9 [(2, (dt (I 0)))] []) (True ∧ True ∧ True) (by kernel_rfl) ⟨trivial, trivial, trivial⟩ ?_
      refine T_ret ?_
      exact ret_here [(dt (I 0))] (by kernel_rfl) (.inl (congrArg I (by first | (rw [chkM, if_pos (by omega)]; done) | (rw [chkM, if_neg (by omega)]; done) : 0 = (chkM n))))

end Go.Proofs.YtoiiblkncbnlaaaGreat

/-
  The plain law of money.Split: parts by rank. No conditions but those of each theorem.
-/
set_option linter.unusedVariables false
set_option linter.unusedSimpArgs false
namespace Go.Proofs.YtoiiblkncbnlaaaGreat
open Go.DL
def partAt (a sum : Int) (ws : List Int) (k : Nat) : Part := ⟨k, (a * ws.getD k 0).tdiv sum, (a * ws.getD k 0).tmod sum⟩
def partsOf (a sum : Int) (ws : List Int) : List Part := (List.range ws.length).map (partAt a sum ws)
theorem partsOf_take (a sum : Int) (ws : List Int) {k : Nat} (h : k < ws.length) : (List.range k).map (partAt a sum ws) ++ [partAt a sum ws k] <+: partsOf a sum ws := by
  refine ⟨((List.range ws.length).map (partAt a sum ws)).drop (k + 1), ?_⟩
  have : (List.range k).map (partAt a sum ws) ++ [partAt a sum ws k] = ((List.range ws.length).map (partAt a sum ws)).take (k + 1) := by
    rw [← List.map_take, List.take_range, Nat.min_eq_left (by omega), List.range_succ, List.map_append]; rfl
  rw [this, List.take_append_drop]; rfl
def vInt : Value → Int
  | .int _ q => q
  | _ => 0
/-- What is left of a, the parts of a list taken away. -/
def leftOf (a : Int) (l : List Part) : Int := l.foldl (fun n p => n - p.c) a
theorem leftOf_snoc (a : Int) (l : List Part) (x : Part) : leftOf a (l ++ [x]) = leftOf a l - x.c := by simp [leftOf]
/-- Parts of greater rest stand ahead; of those with one rest, the one of smaller index. -/
def ahead (p q : Part) : Bool := decide (q.r < p.r) || (decide (p.r = q.r) && decide (p.i < q.i))
def rank (l : List Part) (p : Part) : Nat := l.countP (fun q => ahead q p)
def splitW (a sum : Int) (ws : List Int) : List Int :=
  (partsOf a sum ws).map fun p => p.c + if (rank (partsOf a sum ws) p : Int) < leftOf a (partsOf a sum ws) then 1 else 0
end Go.Proofs.YtoiiblkncbnlaaaGreat

/-
  money.parts's iterator: what it yields. Conditions: those of the theorem.
-/
set_option linter.unusedVariables false
set_option linter.unusedSimpArgs false
namespace Go.Proofs.YtoiiblkncbnlaaaGreat
open Go.DL Go.RowKit Go.Shelf
attribute [local go_sem] Oper.semAt_some
set_option maxRecDepth 100000

theorem it3 : Tryz.prog.underlying 3 = some (TypeDesc.int IntKind.i64) := by kernel_rfl
theorem it22 : Tryz.prog.underlying 41 = some (TypeDesc.slice 3) := by kernel_rfl
theorem itmixed : Tryz.prog.follows .mixedOrders = true := by kernel_rfl

set_option maxHeartbeats 4000000 in
theorem parts_iter (a sum : Int) (ws : List Int) (hs : 0 < sum) (hs2 : sum ≤ 1000000) (ha : 0 ≤ a) (ha2 : a ≤ 1125899906842624) (hw : ∀ x ∈ ws, 0 ≤ x ∧ x ≤ 1000) (hl : ws.length ≤ 256) :
    Iter Tryz.prog 91 [.ptr [.sl 1 (ws.map encI)], .ptr [.int .i64 a], .ptr [.int .i64 sum]] valPart (partsOf a sum ws) := by
  refine ⟨enters_of Tryz.func91 (by kernel_rfl) rfl, ?_⟩
  intro w A lb hsz hcap l J hJK hJd hY W h0
  obtain ⟨v0, hv0, r0⟩ := hcap 0 _ rfl
  obtain ⟨v1, hv1, r1⟩ := hcap 1 _ rfl
  obtain ⟨v2, hv2, r2⟩ := hcap 2 _ rfl
  have hlb : lb = #[v0, v1, v2] := by
    apply Array.ext
    · simpa using hsz
    · intro i h1 h2
      simp only [List.length_cons, List.length_nil] at hsz
      match i, h1 with
      | 0, h1 => have := Array.getElem?_eq_getElem h1; rw [hv0] at this; simpa using (Option.some.inj this).symm
      | 1, h1 => have := Array.getElem?_eq_getElem h1; rw [hv1] at this; simpa using (Option.some.inj this).symm
      | 2, h1 => have := Array.getElem?_eq_getElem h1; rw [hv2] at this; simpa using (Option.some.inj this).symm
      | n + 3, h1 => omega
  subst hlb
  cases r0 with
  | ptr _ b0 o0 vs0 m0 q0 =>
  cases r1 with
  | ptr _ b1 o1 vs1 m1 q1 =>
  cases r2 with
  | ptr _ b2 o2 vs2 m2 q2 =>
  have c0 := m0 0 _ rfl
  have c1 := m1 0 _ rfl
  have c2 := m2 0 _ rfl
  have e0 := q0 0 _ rfl
  have e1 := relD_int (q1 0 _ rfl)
  have e2 := relD_int (q2 0 _ rfl)
  rw [e1] at c1
  rw [e2] at c2
  simp only [Nat.add_zero] at c0 c1 c2
  generalize vs0 0 = sv at c0 e0
  have g0 : ∀ pre W, J pre W → W.cell? ⟨b0, o0, none⟩ = some sv := fun pre W h => hJK pre W h _ _ _ c0.1 c0.2
  have g1 : ∀ pre W, J pre W → W.cell? ⟨b1, o1, none⟩ = some (.int .i64 a) := fun pre W h => hJK pre W h _ _ _ c1.1 c1.2
  have g2 : ∀ pre W, J pre W → W.cell? ⟨b2, o2, none⟩ = some (.int .i64 sum) := fun pre W h => hJK pre W h _ _ _ c2.1 c2.2
  have u3 := run_underlying (P := Tryz.prog) it3; have u22 := run_underlying (P := Tryz.prog) it22
  have mixed := itmixed
  -- the slice
  obtain ⟨ad, cap, hsv, hcell⟩ : ∃ (ad : Option Addr) (cap : Nat), sv = .slice ad ws.length cap ∧ ∀ k, k < ws.length → ∃ b off, ad = some ⟨b, off, none⟩ ∧ ∀ pre W, J pre W → W.cell? ⟨b, off + k, none⟩ = some (.int .i64 (ws.getD k 0)) := by
    generalize hes : ws.map encI = es at e0
    cases e0 with
    | sl _ _ b off cap vs hlen huni hmem hrel =>
      have hl' : es.length = ws.length := by rw [← hes, List.length_map]
      refine ⟨_, cap, by rw [hl'], fun k hk => ⟨b, off, rfl, fun pre W hJ => ?_⟩⟩
      have hfk : (flat es)[k]? = some (.int .i64 (ws.getD k 0)) := by
        have h1 : es[k]? = some (encI (ws.getD k 0)) := by rw [← hes, List.getElem?_map, List.getElem?_eq_getElem hk]; simp [List.getD, List.getElem?_eq_getElem hk]
        have := flat_get (sz := 1) huni h1 (j := 0) (c := .int .i64 (ws.getD k 0)) rfl
        simpa using this
      have h2 := hmem k _ hfk
      rw [relD_int (hrel k _ hfk)] at h2
      exact hJK pre W hJ _ _ _ h2.1 h2.2
    | sl0 _ ad cap _ =>
      have : ws = [] := by simpa using hes
      subst this
      exact ⟨ad, cap, rfl, fun k hk => by simp at hk⟩
  subst hsv
  have hg0 := g0 _ _ h0
  refine callsIn_of_wp Tryz.func91 rfl trivial ?_ rfl
  simp only [Tryz.ntmps91, List.size_toArray, List.length_cons, List.length_nil, Nat.reduceAdd, Nat.reduceSub, Array.replicate_succ, Array.replicate_zero, List.push_toArray, List.append_toArray, List.nil_append, List.cons_append]
  gi_wp2
  gi_loopw [9] (fun i wr => ∃ k : Nat, k ≤ ws.length ∧ i = .int .i64 k ∧ J ((List.range k).map (partAt a sum ws)) wr)
    (fun i _ => ws.length - (vInt i).toNat)
  case atStart => exact ⟨0, Nat.zero_le _, rfl, h0⟩
  case round =>
    obtain ⟨k, hk, rfl, hJs⟩ := hrel
    by_cases hlt : k < ws.length
    · obtain ⟨b, off, rfl, hc⟩ := hcell k hlt
      have hcx := hc _ _ hJs
      have h1x := g1 _ _ hJs
      have h2x := g2 _ _ hJs
      obtain ⟨x, hxe⟩ : ∃ x, x = ws.getD k 0 := ⟨_, rfl⟩
      have hxm : 0 ≤ x ∧ x ≤ 1000 := by
        have := hw (ws[k]) (List.getElem_mem hlt)
        rw [hxe]; simpa [List.getD, List.getElem?_eq_getElem hlt] using this
      rw [← hxe] at hcx
      have hax0 : 0 ≤ a * x := Int.mul_nonneg ha hxm.1
      have hax1 : a * x ≤ 1125899906842624 * 1000 := Int.le_trans (Int.mul_le_mul_of_nonneg_left hxm.2 ha) (Int.mul_le_mul_of_nonneg_right ha2 (by decide))
      have hws : IntKind.i64.wrap (a * x) = a * x := i64_wrap (by omega) (by omega)
      have hq0 : 0 ≤ (a * x).tdiv sum := Int.tdiv_nonneg hax0 (by omega)
      have hq1 : (a * x).tdiv sum ≤ a * x := by rw [Int.tdiv_eq_ediv_of_nonneg hax0]; exact Int.ediv_le_self _ hax0
      have hwq : IntKind.i64.wrap ((a * x).tdiv sum) = (a * x).tdiv sum := i64_wrap (by omega) (by omega)
      have hsn : ¬ (sum = 0) := by omega
      have hJd2 := hJd _ _ wr.drew hJs ((Below.refl _ wr).drew)
      have hpt : partAt a sum ws k = ⟨k, (a * x).tdiv sum, (a * x).tmod sum⟩ := by rw [partAt, hxe]
      obtain ⟨fn, tmps, assign, body, hy, hR⟩ := hY _ (partAt a sum ws k) wr.drew hJd2 (partsOf_take a sum ws hlt)
      rw [hpt] at hy hR
      simp only [valPart] at hy
      have hcd : wr.drew.cell? ⟨b1, o1, none⟩ = some (.int .i64 a) := h1x
      have hcd2 : wr.drew.cell? ⟨b2, o2, none⟩ = some (.int .i64 sum) := h2x
      clear hxe hc hcell g0 g1 g2 hxm hw
      gi_wp2
      gi_region_with_o (refine ⟨rfl, RoundIn.mono hR ?_⟩; rintro e W3 ⟨rfl, hJ3⟩)
      all_goals gi_wp2
      all_goals (refine ⟨⟨k + 1, by omega, by simp, ?_⟩, by simp [vInt]; omega⟩; rw [List.range_succ, List.map_append, List.map_singleton, hpt]; exact hJ3)
    · obtain rfl : k = ws.length := by omega
      gi_wp2
      go_end0
      exact ⟨⟨_, rfl⟩, hJs⟩
end Go.Proofs.YtoiiblkncbnlaaaGreat

/-
  The plain law of money.Split, first part: what the walk of its code needs. Conditions: those of each theorem.
-/
set_option linter.unusedVariables false
set_option linter.unusedSimpArgs false
namespace Go.Proofs.YtoiiblkncbnlaaaGreat
open Go.DL
def sumL (n : Int) : List Int → Int
  | [] => n
  | x :: l => sumL (n + x) l
theorem sumL_nil (ws : List Int) : ws.length ≠ 0 ∨ sumL 0 ws = 0 := by
  cases ws with
  | nil => exact .inr rfl
  | cons x l => exact .inl (by simp)
theorem sumL_end {ws : List Int} {n : Int} {k : Nat} (iv : sumL n (ws.drop k) = sumL 0 ws) (h : ws.length ≤ k) : n = sumL 0 ws := by
  rw [List.drop_eq_nil_of_le h] at iv; exact iv
theorem partsOf_length (a s : Int) (ws : List Int) : (partsOf a s ws).length = ws.length := by simp [partsOf]
theorem prefix_mem {α : Type} {pre xs : List α} {x : α} (h : pre ++ [x] <+: xs) : x ∈ xs := h.subset (by simp)
theorem prefix_len {α : Type} {pre xs : List α} {x : α} (h : pre ++ [x] <+: xs) : pre.length + 1 ≤ xs.length := by have := h.length_le; simpa using this
theorem getD_mem {ws : List Int} {k : Nat} (h : k < ws.length) : ws.getD k 0 ∈ ws := by
  simp only [List.getD, List.getElem?_eq_getElem h, Option.getD_some]; exact List.getElem_mem h
theorem sumL_add (l : List Int) : ∀ n m : Int, sumL (n + m) l = sumL n l + m := by
  induction l with
  | nil => intro n m; rfl
  | cons x l ih => intro n m; simp only [sumL]; rw [show n + m + x = (n + x) + m by omega, ih]
theorem sumL_nonneg {l : List Int} (h : ∀ x ∈ l, 0 ≤ x) : 0 ≤ sumL 0 l := by
  induction l with
  | nil => exact Int.le_refl _
  | cons x l ih =>
    have h1 := ih fun y hy => h y (by simp [hy])
    have h2 := h x (by simp)
    have e : sumL 0 (x :: l) = sumL 0 l + x := by simp only [sumL]; exact sumL_add l 0 x
    omega
theorem le_sumL {l : List Int} (h : ∀ x ∈ l, 0 ≤ x) {x : Int} (hx : x ∈ l) : x ≤ sumL 0 l := by
  induction l with
  | nil => cases hx
  | cons y l ih =>
    have h1 : ∀ x ∈ l, 0 ≤ x := fun z hz => h z (by simp [hz])
    have e : sumL 0 (y :: l) = sumL 0 l + y := by simp only [sumL]; exact sumL_add l 0 y
    have h2 := sumL_nonneg h1
    have h3 := h y (by simp)
    rcases List.mem_cons.1 hx with rfl | hx
    · omega
    · have := ih h1 hx; omega
theorem part_bounds2 {a s : Int} {ws : List Int} (ha : 0 ≤ a) (ha2 : a ≤ 1125899906842624) (hs : 0 < s) (hw : ∀ x ∈ ws, 0 ≤ x ∧ x ≤ 1000) (hl : ws.length ≤ 256) (hws : ∀ x ∈ ws, x ≤ s) {x : Part} (hx : x ∈ partsOf a s ws) :
    0 ≤ x.i ∧ x.i < ws.length ∧ 0 ≤ x.c ∧ x.c ≤ 1125899906842624 ∧ 0 ≤ x.r ∧ x.r < s := by
  simp only [partsOf, List.mem_map, List.mem_range] at hx
  obtain ⟨k, hk, rfl⟩ := hx
  have h1 := hw _ (getD_mem hk)
  have h2 : 0 ≤ a * ws.getD k 0 := Int.mul_nonneg ha h1.1
  have h3 : a * ws.getD k 0 ≤ a * s := Int.mul_le_mul_of_nonneg_left (hws _ (getD_mem hk)) ha
  simp only [partAt]
  generalize a * ws.getD k 0 = m at h2 h3
  rw [Int.tdiv_eq_ediv_of_nonneg h2, Int.tmod_eq_emod_of_nonneg h2]
  have h4 := Int.ediv_nonneg h2 (Int.le_of_lt hs)
  have h5 := Int.ediv_le_of_le_mul hs h3
  have h6 := Int.emod_nonneg m (Int.ne_of_gt hs)
  have h7 := Int.emod_lt_of_pos m hs
  omega
/-- Parts of indices among those of a list. -/
theorem leftOf_low (l : List Part) : ∀ a b : Int, (∀ x ∈ l, 0 ≤ x.c ∧ x.c ≤ b) → a - b * l.length ≤ leftOf a l ∧ leftOf a l ≤ a := by
  induction l with
  | nil => intro a b _; simp [leftOf]
  | cons x l ih =>
    intro a b h
    have h1 := ih (a - x.c) b (fun y hy => h y (by simp [hy]))
    have h2 := h x (by simp)
    have e : leftOf a (x :: l) = leftOf (a - x.c) l := rfl
    rw [e]
    simp only [List.length_cons, Int.natCast_add, Int.natCast_one, Int.mul_add, Int.mul_one]
    omega
theorem leftOf_bounds {a s : Int} {ws : List Int} (ha : 0 ≤ a) (ha2 : a ≤ 1125899906842624) (hs : 0 < s) (hw : ∀ x ∈ ws, 0 ≤ x ∧ x ≤ 1000) (hl : ws.length ≤ 256) (hws : ∀ x ∈ ws, x ≤ s) {pre : List Part} (h : pre <+: partsOf a s ws) :
    -1125899906842624 * 256 ≤ leftOf a pre ∧ leftOf a pre ≤ 1125899906842624 := by
  have h1 := leftOf_low pre a 1125899906842624 (fun x hx => by have := part_bounds2 ha ha2 hs hw hl hws (h.subset hx); omega)
  have h2 := h.length_le
  rw [partsOf_length] at h2
  omega
theorem parts_ne {a s : Int} {ws : List Int} (hs : 0 < sumL 0 ws) : partsOf a s ws ≠ [] := by
  intro e
  have h1 := congrArg List.length e
  rw [partsOf_length] at h1
  have h2 := sumL_nil ws
  simp at h1
  subst h1
  simp [sumL] at hs
/-- A sorted order of parts. -/
def sortR (d d' : List Part) : Prop := d'.Perm d ∧ d'.Pairwise fun p q => ahead q p = false
theorem parts_nodup (a s : Int) (ws : List Int) : ((partsOf a s ws).map (·.i)).Nodup := by
  have : (partsOf a s ws).map (·.i) = (List.range ws.length).map fun k : Nat => (k : Int) := by
    simp only [partsOf, List.map_map]; rfl
  rw [this]
  exact List.Pairwise.map _ (fun a b h e => h (by omega)) List.nodup_range
theorem sorted_nodup {a s : Int} {ws : List Int} {d : List Part} (h : sortR (partsOf a s ws) d) : (d.map (·.i)).Nodup := (h.1.map _).nodup_iff.2 (parts_nodup a s ws)
theorem nodup_ne {d : List Part} (h : (d.map (·.i)).Nodup) {j k : Nat} {x y : Part} (hj : d[j]? = some x) (hk : d[k]? = some y) (hne : j ≠ k) : x.i ≠ y.i := by
  intro e
  have h1 : (d.map (·.i))[j]? = some x.i := by rw [List.getElem?_map, hj]; rfl
  have h2 : (d.map (·.i))[k]? = some x.i := by rw [List.getElem?_map, hk, e]; rfl
  obtain ⟨l1, e1⟩ := List.getElem?_eq_some_iff.1 h1
  obtain ⟨l2, e2⟩ := List.getElem?_eq_some_iff.1 h2
  have hp := List.pairwise_iff_getElem.1 (show List.Pairwise (· ≠ ·) (d.map (·.i)) from h)
  rcases Nat.lt_or_gt_of_ne hne with h3 | h3
  · exact hp j k l1 l2 h3 (e1.trans e2.symm)
  · exact hp k j l2 l1 h3 (e2.trans e1.symm)
/-- What the first k of the sorted parts have been given. -/
def Filled (L : Int) (d : List Part) (k : Nat) (cs : List Int) : Prop := ∀ j x, j < k → d[j]? = some x → cs[x.i.toNat]? = some (x.c + if (j : Int) < L then 1 else 0)
theorem fill_start (L : Int) (d : List Part) (cs : List Int) : Filled L d 0 cs := fun j x h => absurd h (Nat.not_lt_zero j)
theorem fill_set {L : Int} {d : List Part} {k : Nat} {cs : List Int} (h : Filled L d k cs) (hn : (d.map (·.i)).Nodup) (h0 : ∀ x ∈ d, 0 ≤ x.i) {x : Part} (hx : d[k]? = some x) (v : Int) : Filled L d k (cs.set x.i.toNat v) := by
  intro j y hj hy
  have hne := nodup_ne hn hy hx (by omega)
  have h1 := h0 x (List.mem_of_getElem? hx)
  have h2 := h0 y (List.mem_of_getElem? hy)
  rw [List.getElem?_set_ne (by omega)]
  exact h j y hj hy
theorem fill_put {L : Int} {d : List Part} {k : Nat} {cs : List Int} (h : Filled L d k cs) {x : Part} (hx : d[k]? = some x) (hc : cs[x.i.toNat]? = some (x.c + if (k : Int) < L then 1 else 0)) : Filled L d (k + 1) cs := by
  intro j y hj hy
  by_cases e : j = k
  · subst e; rw [hx] at hy; cases hy; exact hc
  · exact h j y (by omega) hy
theorem sorted_mem {a s : Int} {ws : List Int} {d : List Part} (h : sortR (partsOf a s ws) d) {x : Part} (hx : x ∈ d) : 0 ≤ x.i ∧ x.i < ws.length := by
  have := h.1.mem_iff.1 hx
  simp only [partsOf, List.mem_map, List.mem_range] at this
  obtain ⟨k, hk, rfl⟩ := this
  simp only [partAt]; omega
theorem fill_more {a s L : Int} {ws : List Int} {d : List Part} {k : Nat} {cs : List Int} (h : Filled L d k cs) (hR : sortR (partsOf a s ws) d) {x : Part} (hx : d[k]? = some x) (hc : cs.length = 256) (hl : ws.length ≤ 256) (hk : (k : Int) < L) :
    Filled L d (k + 1) ((cs.set x.i.toNat x.c).set x.i.toNat (x.c + 1)) := by
  have hb := sorted_mem hR (List.mem_of_getElem? hx)
  have hn := sorted_nodup hR
  refine fill_put (fill_set (fill_set h hn (fun y hy => (sorted_mem hR hy).1) hx _) hn (fun y hy => (sorted_mem hR hy).1) hx _) hx ?_
  rw [List.getElem?_set_self (by rw [List.length_set]; omega), if_pos hk]
theorem fill_less {a s L : Int} {ws : List Int} {d : List Part} {k : Nat} {cs : List Int} (h : Filled L d k cs) (hR : sortR (partsOf a s ws) d) {x : Part} (hx : d[k]? = some x) (hc : cs.length = 256) (hl : ws.length ≤ 256) (hk : ¬ (k : Int) < L) :
    Filled L d (k + 1) (cs.set x.i.toNat x.c) := by
  have hb := sorted_mem hR (List.mem_of_getElem? hx)
  refine fill_put (fill_set h (sorted_nodup hR) (fun y hy => (sorted_mem hR hy).1) hx _) hx ?_
  rw [List.getElem?_set_self (by omega), if_neg hk, Int.add_zero]
/-- A part's place in a sorted order is its rank. -/
theorem rank_at {d0 d : List Part} (hR : sortR d0 d) (hn : (d.map (·.i)).Nodup) {j : Nat} {x : Part} (hx : d[j]? = some x) : rank d0 x = j := by
  unfold rank
  rw [← hR.1.countP_eq]
  obtain ⟨hlt, rfl⟩ := List.getElem?_eq_some_iff.1 hx
  have hp := List.pairwise_iff_getElem.1 hR.2
  have e : d = d.take j ++ (d[j] :: d.drop (j + 1)) := by rw [← List.drop_eq_getElem_cons hlt, List.take_append_drop]
  have h1 : (d.take j).countP (fun q => ahead q d[j]) = j := by
    rw [List.countP_eq_length.2, List.length_take, Nat.min_eq_left (by omega)]
    intro y hy
    obtain ⟨i, hi, rfl⟩ := List.mem_iff_getElem.1 hy
    have hi' : i < j := by rw [List.length_take] at hi; omega
    rw [List.getElem_take]
    have h2 := hp i j (by omega) hlt hi'
    have h3 := nodup_ne hn (List.getElem?_eq_getElem (show i < d.length by omega)) (List.getElem?_eq_getElem hlt) (by omega)
    simp only [ahead, Bool.or_eq_false_iff, Bool.and_eq_false_iff, decide_eq_false_iff_not, Bool.or_eq_true, Bool.and_eq_true, decide_eq_true_eq] at h2 ⊢
    omega
  have h4 : (d.drop (j + 1)).countP (fun q => ahead q d[j]) = 0 := by
    rw [List.countP_eq_zero]
    intro y hy
    obtain ⟨i, hi, rfl⟩ := List.mem_iff_getElem.1 hy
    rw [List.getElem_drop]
    rw [List.length_drop] at hi
    have h2 := hp j (j + 1 + i) hlt (by omega) (by omega)
    simp [h2]
  have h5 : ahead d[j] d[j] = false := by simp [ahead]
  have h6 : d.countP (fun q => ahead q d[j]) = (d.take j ++ (d[j] :: d.drop (j + 1))).countP (fun q => ahead q d[j]) := congrArg (List.countP _) e
  rw [h6, List.countP_append, List.countP_cons, h1, h4, h5]
  simp
theorem filled_end {a s : Int} {ws : List Int} {d : List Part} {k : Nat} {cs : List Int} (h : Filled (leftOf a (partsOf a s ws)) d k cs) (hR : sortR (partsOf a s ws) d) (hc : cs.length = 256) (hl : ws.length ≤ 256) (hk : d.length ≤ k) : cs.take ws.length = splitW a s ws := by
  apply List.ext_getElem?
  intro i
  rw [List.getElem?_take]
  split
  · rename_i hi
    have hpi : (partsOf a s ws)[i]? = some (partAt a s ws i) := by
      rw [partsOf, List.getElem?_map, List.getElem?_range hi]; rfl
    obtain ⟨j, hj, hje⟩ := List.mem_iff_getElem.1 (hR.1.mem_iff.2 (List.mem_of_getElem? hpi))
    have hdj : d[j]? = some (partAt a s ws i) := by rw [List.getElem?_eq_getElem hj, hje]
    have h1 := h j _ (by omega) hdj
    have h2 : (partAt a s ws i).i.toNat = i := by simp [partAt]
    rw [h2] at h1
    rw [h1, splitW, List.getElem?_map, hpi, Option.map_some, rank_at hR (sorted_nodup hR) hdj]
  · rename_i hi
    rw [splitW, List.getElem?_map, List.getElem?_eq_none (by rw [partsOf_length]; omega)]; rfl
end Go.Proofs.YtoiiblkncbnlaaaGreat

/-
  DERIVED: THE SHELF's CONTRACTS AT THIS DUMP, IN PLAIN WORDS (tools/lay-plain.mjs out of 'YtoiiblkncbnlaaaGreatLayAs.lean', which tools/lay-shelf.mjs wrote): THE SAME DECLARATIONS UNDER THE SAME NAMES: 'import', 'namespace', 'open', 'def', 'theorem' AND NOTHING ELSE: no command of the shelf's: FOR A HAND-IN. Each laying: the table of numbers ('.._ren') and one theorem, a field a fact of the dump's own or the kernel's comparison; each contract: ONE APPLICATION.
-/
namespace Go.Proofs
open Go.Shelf
def Tryz.lsort_ren : Go.Shelf.Ren := ⟨fun | 6 => 74 | 15 => 60 | 14 => 92 | 28 => 86 | 29 => 87 | 20 => 110 | 21 => 111 | 22 => 112 | 23 => 113 | 24 => 114 | 25 => 115 | 26 => 116 | 27 => 117 | 46 => 122 | 47 => 97 | 48 => 98 | 49 => 123 | 50 => 124 | 57 => 126 | n => n, fun | 22 => 107 | 24 => 112 | 25 => 114 | 3 => 3 | 39 => 99 | 0 => 0 | 53 => 128 | 55 => 130 | 4 => 4 | 46 => 121 | 45 => 120 | 50 => 125 | 5 => 5 | 9 => 9 | 66 => 141 | 70 => 145 | 76 => 158 | 77 => 159 | n => n, fun | n => n⟩
theorem Tryz.lsort : Go.Proofs.SlLaysF0.n6 Tryz.prog Tryz.lsort_ren := {
  mixed := by kernel_rfl
  f6 := ⟨Tryz.f74.name, by decide, Tryz.func74.trans (congrArg some (by kernel_rfl))⟩
  f14 := ⟨Tryz.f92.name, by decide, Tryz.func92.trans (congrArg some (by kernel_rfl))⟩
  f15 := Tryz.func60.trans (congrArg some (by kernel_rfl))
  f20 := ⟨Tryz.f110.name, by decide, Tryz.func110.trans (congrArg some (by kernel_rfl))⟩
  f21 := ⟨Tryz.f111.name, by decide, Tryz.func111.trans (congrArg some (by kernel_rfl))⟩
  f22 := ⟨Tryz.f112.name, by decide, Tryz.func112.trans (congrArg some (by kernel_rfl))⟩
  f23 := ⟨Tryz.f113.name, by decide, Tryz.func113.trans (congrArg some (by kernel_rfl))⟩
  f24 := ⟨Tryz.f114.name, by decide, Tryz.func114.trans (congrArg some (by kernel_rfl))⟩
  f25 := ⟨Tryz.f115.name, by decide, Tryz.func115.trans (congrArg some (by kernel_rfl))⟩
  f26 := ⟨Tryz.f116.name, by decide, Tryz.func116.trans (congrArg some (by kernel_rfl))⟩
  f27 := ⟨Tryz.f117.name, by decide, Tryz.func117.trans (congrArg some (by kernel_rfl))⟩
  f28 := Tryz.func86.trans (congrArg some (by kernel_rfl))
  f29 := Tryz.func87.trans (congrArg some (by kernel_rfl))
  f46 := ⟨Tryz.f122.name, by decide, Tryz.func122.trans (congrArg some (by kernel_rfl))⟩
  f47 := Tryz.func97.trans (congrArg some (by kernel_rfl))
  f48 := Tryz.func98.trans (congrArg some (by kernel_rfl))
  f49 := ⟨Tryz.f123.name, by decide, Tryz.func123.trans (congrArg some (by kernel_rfl))⟩
  f50 := ⟨Tryz.f124.name, by decide, Tryz.func124.trans (congrArg some (by kernel_rfl))⟩
  f57 := ⟨Tryz.f126.name, by decide, Tryz.func126.trans (congrArg some (by kernel_rfl))⟩
  t0 := Tryz.underlying0
  a0 := Tryz.isAgg0
  z0 := Tryz.sizeOf0
  v0 := Tryz.zeroValue0
  t3 := Tryz.underlying3
  a3 := Tryz.isAgg3
  z3 := Tryz.sizeOf3
  v3 := Tryz.zeroValue3
  t4 := Tryz.underlying4
  a4 := Tryz.isAgg4
  z4 := Tryz.sizeOf4
  v4 := Tryz.zeroValue4
  t5 := Tryz.underlying5
  a5 := Tryz.isAgg5
  z5 := Tryz.sizeOf5
  v5 := Tryz.zeroValue5
  t9 := Tryz.underlying9
  a9 := Tryz.isAgg9
  z9 := Tryz.sizeOf9
  v9 := Tryz.zeroValue9
  t22 := Tryz.underlying107
  a22 := Tryz.isAgg107
  z22 := Tryz.sizeOf107
  v22 := Tryz.zeroValue107
  t25 := Tryz.underlying114
  a25 := Tryz.isAgg114
  z25 := Tryz.sizeOf114
  v25 := Tryz.zeroValue114
  t39 := Tryz.underlying99
  a39 := Tryz.isAgg99
  z39 := Tryz.sizeOf99
  v39 := Tryz.zeroValue99
  t45 := Tryz.underlying120
  a45 := Tryz.isAgg120
  z45 := Tryz.sizeOf120
  v45 := Tryz.zeroValue120
  t46 := Tryz.underlying121
  a46 := Tryz.isAgg121
  z46 := Tryz.sizeOf121
  v46 := Tryz.zeroValue121
  t50 := Tryz.underlying125
  a50 := Tryz.isAgg125
  z50 := Tryz.sizeOf125
  v50 := Tryz.zeroValue125
  t53 := Tryz.underlying128
  a53 := Tryz.isAgg128
  z53 := Tryz.sizeOf128
  v53 := Tryz.zeroValue128
  t55 := Tryz.underlying130
  a55 := Tryz.isAgg130
  z55 := Tryz.sizeOf130
  v55 := Tryz.zeroValue130
  t66 := Tryz.underlying141
  a66 := Tryz.isAgg141
  z66 := Tryz.sizeOf141
  v66 := Tryz.zeroValue141
  t70 := Tryz.underlying145
  a70 := Tryz.isAgg145
  z70 := Tryz.sizeOf145
  v70 := Tryz.zeroValue145
  t76 := Tryz.underlying158
  a76 := Tryz.isAgg158
  z76 := Tryz.sizeOf158
  v76 := Tryz.zeroValue158
  t77 := Tryz.underlying159
  a77 := Tryz.isAgg159
  z77 := Tryz.sizeOf159
  v77 := Tryz.zeroValue159 }
def Tryz.lsortP_ren : Go.Shelf.Ren := ⟨fun | 6 => 34 | 15 => 60 | 14 => 59 | 28 => 86 | 29 => 87 | 20 => 78 | 21 => 79 | 22 => 80 | 23 => 81 | 24 => 82 | 25 => 83 | 26 => 84 | 27 => 85 | 46 => 96 | 47 => 97 | 48 => 98 | 49 => 99 | 50 => 100 | 57 => 118 | n => n, fun | 22 => 34 | 24 => 56 | 25 => 73 | 3 => 3 | 39 => 99 | 0 => 0 | 53 => 128 | 55 => 130 | 4 => 4 | 46 => 121 | 45 => 120 | 50 => 125 | 5 => 5 | 9 => 9 | 66 => 141 | 70 => 145 | 76 => 158 | 77 => 159 | n => n, fun | n => n⟩
theorem Tryz.lsortP : Go.Proofs.SlLaysF0.n6 Tryz.prog Tryz.lsortP_ren := {
  mixed := by kernel_rfl
  f6 := ⟨Tryz.f34.name, by decide, Tryz.func34.trans (congrArg some (by kernel_rfl))⟩
  f14 := ⟨Tryz.f59.name, by decide, Tryz.func59.trans (congrArg some (by kernel_rfl))⟩
  f15 := Tryz.func60.trans (congrArg some (by kernel_rfl))
  f20 := ⟨Tryz.f78.name, by decide, Tryz.func78.trans (congrArg some (by kernel_rfl))⟩
  f21 := ⟨Tryz.f79.name, by decide, Tryz.func79.trans (congrArg some (by kernel_rfl))⟩
  f22 := ⟨Tryz.f80.name, by decide, Tryz.func80.trans (congrArg some (by kernel_rfl))⟩
  f23 := ⟨Tryz.f81.name, by decide, Tryz.func81.trans (congrArg some (by kernel_rfl))⟩
  f24 := ⟨Tryz.f82.name, by decide, Tryz.func82.trans (congrArg some (by kernel_rfl))⟩
  f25 := ⟨Tryz.f83.name, by decide, Tryz.func83.trans (congrArg some (by kernel_rfl))⟩
  f26 := ⟨Tryz.f84.name, by decide, Tryz.func84.trans (congrArg some (by kernel_rfl))⟩
  f27 := ⟨Tryz.f85.name, by decide, Tryz.func85.trans (congrArg some (by kernel_rfl))⟩
  f28 := Tryz.func86.trans (congrArg some (by kernel_rfl))
  f29 := Tryz.func87.trans (congrArg some (by kernel_rfl))
  f46 := ⟨Tryz.f96.name, by decide, Tryz.func96.trans (congrArg some (by kernel_rfl))⟩
  f47 := Tryz.func97.trans (congrArg some (by kernel_rfl))
  f48 := Tryz.func98.trans (congrArg some (by kernel_rfl))
  f49 := ⟨Tryz.f99.name, by decide, Tryz.func99.trans (congrArg some (by kernel_rfl))⟩
  f50 := ⟨Tryz.f100.name, by decide, Tryz.func100.trans (congrArg some (by kernel_rfl))⟩
  f57 := ⟨Tryz.f118.name, by decide, Tryz.func118.trans (congrArg some (by kernel_rfl))⟩
  t0 := Tryz.underlying0
  a0 := Tryz.isAgg0
  z0 := Tryz.sizeOf0
  v0 := Tryz.zeroValue0
  t3 := Tryz.underlying3
  a3 := Tryz.isAgg3
  z3 := Tryz.sizeOf3
  v3 := Tryz.zeroValue3
  t4 := Tryz.underlying4
  a4 := Tryz.isAgg4
  z4 := Tryz.sizeOf4
  v4 := Tryz.zeroValue4
  t5 := Tryz.underlying5
  a5 := Tryz.isAgg5
  z5 := Tryz.sizeOf5
  v5 := Tryz.zeroValue5
  t9 := Tryz.underlying9
  a9 := Tryz.isAgg9
  z9 := Tryz.sizeOf9
  v9 := Tryz.zeroValue9
  t22 := Tryz.underlying34
  a22 := Tryz.isAgg34
  z22 := Tryz.sizeOf34
  v22 := Tryz.zeroValue34
  t25 := Tryz.underlying73
  a25 := Tryz.isAgg73
  z25 := Tryz.sizeOf73
  v25 := Tryz.zeroValue73
  t39 := Tryz.underlying99
  a39 := Tryz.isAgg99
  z39 := Tryz.sizeOf99
  v39 := Tryz.zeroValue99
  t45 := Tryz.underlying120
  a45 := Tryz.isAgg120
  z45 := Tryz.sizeOf120
  v45 := Tryz.zeroValue120
  t46 := Tryz.underlying121
  a46 := Tryz.isAgg121
  z46 := Tryz.sizeOf121
  v46 := Tryz.zeroValue121
  t50 := Tryz.underlying125
  a50 := Tryz.isAgg125
  z50 := Tryz.sizeOf125
  v50 := Tryz.zeroValue125
  t53 := Tryz.underlying128
  a53 := Tryz.isAgg128
  z53 := Tryz.sizeOf128
  v53 := Tryz.zeroValue128
  t55 := Tryz.underlying130
  a55 := Tryz.isAgg130
  z55 := Tryz.sizeOf130
  v55 := Tryz.zeroValue130
  t66 := Tryz.underlying141
  a66 := Tryz.isAgg141
  z66 := Tryz.sizeOf141
  v66 := Tryz.zeroValue141
  t70 := Tryz.underlying145
  a70 := Tryz.isAgg145
  z70 := Tryz.sizeOf145
  v70 := Tryz.zeroValue145
  t76 := Tryz.underlying158
  a76 := Tryz.isAgg158
  z76 := Tryz.sizeOf158
  v76 := Tryz.zeroValue158
  t77 := Tryz.underlying159
  a77 := Tryz.isAgg159
  z77 := Tryz.sizeOf159
  v77 := Tryz.zeroValue159 }
def Tryz.lcmp_ren : Go.Shelf.Ren := ⟨fun | 5 => 36 | 7 => 61 | n => n, fun | 22 => 3 | 3 => 3 | 4 => 4 | n => n, fun | n => n⟩
theorem Tryz.lcmp : Go.Proofs.SlLaysC2.n5 Tryz.prog Tryz.lcmp_ren := {
  mixed := by kernel_rfl
  f5 := ⟨Tryz.f36.name, by decide, Tryz.func36.trans (congrArg some (by kernel_rfl))⟩
  f7 := ⟨Tryz.f61.name, by decide, Tryz.func61.trans (congrArg some (by kernel_rfl))⟩
  t3 := Tryz.underlying3
  a3 := Tryz.isAgg3
  z3 := Tryz.sizeOf3
  v3 := Tryz.zeroValue3
  t4 := Tryz.underlying4
  a4 := Tryz.isAgg4
  z4 := Tryz.sizeOf4
  v4 := Tryz.zeroValue4
  t22 := Tryz.underlying3
  a22 := Tryz.isAgg3
  z22 := Tryz.sizeOf3
  v22 := Tryz.zeroValue3 }
def Tryz.lkeys_ren : Go.Shelf.Ren := ⟨fun | 7 => 51 | 10 => 72 | n => n, fun | 23 => 85 | 26 => 3 | 3 => 4 | 28 => 91 | 0 => 0 | 27 => 90 | 33 => 78 | 4 => 4 | n => n, fun | n => n⟩
theorem Tryz.lkeys : Go.Proofs.SlLaysZI.n7 Tryz.prog Tryz.lkeys_ren := {
  mixed := by kernel_rfl
  f7 := ⟨Tryz.f51.name, by decide, Tryz.func51.trans (congrArg some (by kernel_rfl))⟩
  f10 := ⟨Tryz.f72.name, by decide, Tryz.func72.trans (congrArg some (by kernel_rfl))⟩
  t0 := Tryz.underlying0
  a0 := Tryz.isAgg0
  z0 := Tryz.sizeOf0
  v0 := Tryz.zeroValue0
  t4 := Tryz.underlying4
  a4 := Tryz.isAgg4
  z4 := Tryz.sizeOf4
  v4 := Tryz.zeroValue4
  t23 := Tryz.underlying85
  a23 := Tryz.isAgg85
  z23 := Tryz.sizeOf85
  v23 := Tryz.zeroValue85
  t26 := Tryz.underlying3
  a26 := Tryz.isAgg3
  z26 := Tryz.sizeOf3
  v26 := Tryz.zeroValue3
  t27 := Tryz.underlying90
  a27 := Tryz.isAgg90
  z27 := Tryz.sizeOf90
  v27 := Tryz.zeroValue90
  t28 := Tryz.underlying91
  a28 := Tryz.isAgg91
  z28 := Tryz.sizeOf91
  v28 := Tryz.zeroValue91
  t33 := Tryz.underlying78
  a33 := Tryz.isAgg78
  z33 := Tryz.sizeOf78
  v33 := Tryz.zeroValue78 }
def Tryz.lsorted_ren : Go.Shelf.Ren := ⟨fun | 6 => 50 | 8 => 71 | 9 => 64 | 11 => 90 | 13 => 60 | 12 => 89 | 23 => 86 | 24 => 87 | 14 => 101 | 15 => 102 | 16 => 103 | 17 => 104 | 18 => 105 | 19 => 106 | 20 => 107 | 21 => 108 | 22 => 109 | 25 => 119 | 26 => 97 | 27 => 98 | 28 => 120 | 29 => 121 | 30 => 61 | 31 => 125 | n => n, fun | 26 => 3 | 28 => 91 | 24 => 41 | 0 => 0 | 3 => 3 | 37 => 99 | 48 => 128 | 50 => 130 | 4 => 4 | 40 => 121 | 39 => 120 | 45 => 125 | 5 => 5 | 9 => 9 | 51 => 141 | 55 => 145 | 57 => 158 | 58 => 159 | 33 => 78 | n => n, fun | n => n⟩
theorem Tryz.lsorted : Go.Proofs.SlLaysZI.n6 Tryz.prog Tryz.lsorted_ren := {
  mixed := by kernel_rfl
  f6 := ⟨Tryz.f50.name, by decide, Tryz.func50.trans (congrArg some (by kernel_rfl))⟩
  f8 := ⟨Tryz.f71.name, by decide, Tryz.func71.trans (congrArg some (by kernel_rfl))⟩
  f11 := ⟨Tryz.f90.name, by decide, Tryz.func90.trans (congrArg some (by kernel_rfl))⟩
  t0 := Tryz.underlying0
  a0 := Tryz.isAgg0
  z0 := Tryz.sizeOf0
  v0 := Tryz.zeroValue0
  t24 := Tryz.underlying41
  a24 := Tryz.isAgg41
  z24 := Tryz.sizeOf41
  v24 := Tryz.zeroValue41
  t26 := Tryz.underlying3
  a26 := Tryz.isAgg3
  z26 := Tryz.sizeOf3
  v26 := Tryz.zeroValue3
  t28 := Tryz.underlying91
  a28 := Tryz.isAgg91
  z28 := Tryz.sizeOf91
  v28 := Tryz.zeroValue91
  i26 := by kernel_rfl }
def Tryz.lsortI_ren : Go.Shelf.Ren := ⟨fun | 5 => 64 | 8 => 60 | 7 => 89 | 19 => 86 | 20 => 87 | 10 => 101 | 11 => 102 | 12 => 103 | 13 => 104 | 14 => 105 | 15 => 106 | 16 => 107 | 17 => 108 | 18 => 109 | 30 => 119 | 31 => 97 | 32 => 98 | 33 => 120 | 34 => 121 | 35 => 61 | 40 => 125 | n => n, fun | 23 => 41 | 25 => 3 | 3 => 3 | 32 => 99 | 22 => 41 | 0 => 0 | 44 => 128 | 46 => 130 | 4 => 4 | 36 => 121 | 35 => 120 | 41 => 125 | 5 => 5 | 9 => 9 | 53 => 141 | 57 => 145 | 63 => 158 | 64 => 159 | n => n, fun | n => n⟩
theorem Tryz.lsortI : Go.Proofs.SlLaysM.n5 Tryz.prog Tryz.lsortI_ren := {
  mixed := by kernel_rfl
  f5 := ⟨Tryz.f64.name, by decide, Tryz.func64.trans (congrArg some (by kernel_rfl))⟩
  f7 := ⟨Tryz.f89.name, by decide, Tryz.func89.trans (congrArg some (by kernel_rfl))⟩
  f8 := Tryz.func60.trans (congrArg some (by kernel_rfl))
  f10 := ⟨Tryz.f101.name, by decide, Tryz.func101.trans (congrArg some (by kernel_rfl))⟩
  f11 := ⟨Tryz.f102.name, by decide, Tryz.func102.trans (congrArg some (by kernel_rfl))⟩
  f12 := ⟨Tryz.f103.name, by decide, Tryz.func103.trans (congrArg some (by kernel_rfl))⟩
  f13 := ⟨Tryz.f104.name, by decide, Tryz.func104.trans (congrArg some (by kernel_rfl))⟩
  f14 := ⟨Tryz.f105.name, by decide, Tryz.func105.trans (congrArg some (by kernel_rfl))⟩
  f15 := ⟨Tryz.f106.name, by decide, Tryz.func106.trans (congrArg some (by kernel_rfl))⟩
  f16 := ⟨Tryz.f107.name, by decide, Tryz.func107.trans (congrArg some (by kernel_rfl))⟩
  f17 := ⟨Tryz.f108.name, by decide, Tryz.func108.trans (congrArg some (by kernel_rfl))⟩
  f18 := ⟨Tryz.f109.name, by decide, Tryz.func109.trans (congrArg some (by kernel_rfl))⟩
  f19 := Tryz.func86.trans (congrArg some (by kernel_rfl))
  f20 := Tryz.func87.trans (congrArg some (by kernel_rfl))
  f30 := ⟨Tryz.f119.name, by decide, Tryz.func119.trans (congrArg some (by kernel_rfl))⟩
  f31 := Tryz.func97.trans (congrArg some (by kernel_rfl))
  f32 := Tryz.func98.trans (congrArg some (by kernel_rfl))
  f33 := ⟨Tryz.f120.name, by decide, Tryz.func120.trans (congrArg some (by kernel_rfl))⟩
  f34 := ⟨Tryz.f121.name, by decide, Tryz.func121.trans (congrArg some (by kernel_rfl))⟩
  f35 := ⟨Tryz.f61.name, by decide, Tryz.func61.trans (congrArg some (by kernel_rfl))⟩
  f40 := ⟨Tryz.f125.name, by decide, Tryz.func125.trans (congrArg some (by kernel_rfl))⟩
  t0 := Tryz.underlying0
  a0 := Tryz.isAgg0
  z0 := Tryz.sizeOf0
  v0 := Tryz.zeroValue0
  t3 := Tryz.underlying3
  a3 := Tryz.isAgg3
  z3 := Tryz.sizeOf3
  v3 := Tryz.zeroValue3
  t4 := Tryz.underlying4
  a4 := Tryz.isAgg4
  z4 := Tryz.sizeOf4
  v4 := Tryz.zeroValue4
  t5 := Tryz.underlying5
  a5 := Tryz.isAgg5
  z5 := Tryz.sizeOf5
  v5 := Tryz.zeroValue5
  t9 := Tryz.underlying9
  a9 := Tryz.isAgg9
  z9 := Tryz.sizeOf9
  v9 := Tryz.zeroValue9
  t22 := Tryz.underlying41
  a22 := Tryz.isAgg41
  z22 := Tryz.sizeOf41
  v22 := Tryz.zeroValue41
  t23 := Tryz.underlying41
  a23 := Tryz.isAgg41
  z23 := Tryz.sizeOf41
  v23 := Tryz.zeroValue41
  t25 := Tryz.underlying3
  a25 := Tryz.isAgg3
  z25 := Tryz.sizeOf3
  v25 := Tryz.zeroValue3
  t32 := Tryz.underlying99
  a32 := Tryz.isAgg99
  z32 := Tryz.sizeOf99
  v32 := Tryz.zeroValue99
  t35 := Tryz.underlying120
  a35 := Tryz.isAgg120
  z35 := Tryz.sizeOf120
  v35 := Tryz.zeroValue120
  t36 := Tryz.underlying121
  a36 := Tryz.isAgg121
  z36 := Tryz.sizeOf121
  v36 := Tryz.zeroValue121
  t41 := Tryz.underlying125
  a41 := Tryz.isAgg125
  z41 := Tryz.sizeOf125
  v41 := Tryz.zeroValue125
  t44 := Tryz.underlying128
  a44 := Tryz.isAgg128
  z44 := Tryz.sizeOf128
  v44 := Tryz.zeroValue128
  t46 := Tryz.underlying130
  a46 := Tryz.isAgg130
  z46 := Tryz.sizeOf130
  v46 := Tryz.zeroValue130
  t53 := Tryz.underlying141
  a53 := Tryz.isAgg141
  z53 := Tryz.sizeOf141
  v53 := Tryz.zeroValue141
  t57 := Tryz.underlying145
  a57 := Tryz.isAgg145
  z57 := Tryz.sizeOf145
  v57 := Tryz.zeroValue145
  t63 := Tryz.underlying158
  a63 := Tryz.isAgg158
  z63 := Tryz.sizeOf158
  v63 := Tryz.zeroValue158
  t64 := Tryz.underlying159
  a64 := Tryz.isAgg159
  z64 := Tryz.sizeOf159
  v64 := Tryz.zeroValue159 }
end Go.Proofs

/-
  cmp.Or at two numbers; the comparison of two parts, with the world behind it. Conditions: those of each theorem.
-/
set_option linter.unusedVariables false
set_option linter.unusedSimpArgs false
namespace Go.Proofs.YtoiiblkncbnlaaaGreat
open Go.DL Go.RowKit Go.Shelf Go.Sort
attribute [local go_sem] Oper.semAt_some
set_option maxRecDepth 100000
def orI (a b : Int) : Int := if a = 0 then b else a
theorem ft3 : Tryz.prog.underlying 3 = some (TypeDesc.int IntKind.i64) := by kernel_rfl
theorem ft22 : Tryz.prog.underlying 41 = some (TypeDesc.slice 3) := by kernel_rfl
theorem ftmixed : Tryz.prog.follows .mixedOrders = true := by kernel_rfl
set_option maxHeartbeats 4000000 in
theorem or_calls (b : Nat) (c1 c2 : Int) (w : World) (h0 : w.cell? ⟨b, 0, none⟩ = some (.int .i64 c1)) (h1 : w.cell? ⟨b, 1, none⟩ = some (.int .i64 c2)) :
    Calls Tryz.prog 93 #[.slice (some ⟨b, 0, none⟩) 2 2] w fun e w' => e = .returned (.int .i64 (orI c1 c2)) ∧ w' = w := by
  refine (callsIn_wide (n := 0)).1 (callsIn_of_wp Tryz.func93 rfl trivial ?_ rfl)
  simp only [Tryz.ntmps93, List.size_toArray, List.length_cons, List.length_nil, Nat.reduceAdd, Nat.reduceSub, Array.replicate_succ, Array.replicate_zero, List.push_toArray, List.append_toArray, List.nil_append, List.cons_append]
  have u3 := run_underlying (P := Tryz.prog) ft3; have u22 := run_underlying (P := Tryz.prog) ft22
  gi_wp2
  gi_loopw [8] (fun i wr => ∃ k : Nat, k ≤ 2 ∧ i = .int .i64 k ∧ wr = w ∧ (1 ≤ k → c1 = 0) ∧ (2 ≤ k → c2 = 0))
    (fun i _ => 2 - (vInt i).toNat)
  case atStart => exact ⟨0, by omega, rfl, rfl, by omega, by omega⟩
  case round =>
    obtain ⟨k, hk, rfl, rfl, hz1, hz2⟩ := hrel
    match k, hk with
    | 0, _ =>
      gi_wp2
      · go_ret
        rename_i hne
        have e : orI c1 c2 = c1 := by have : c1 ≠ 0 := by simpa using hne
                                      simp [orI, this]
        exact ⟨by rw [e]; rfl, rfl⟩
      · rename_i he
        exact ⟨⟨1, by omega, rfl, trivial, fun _ => by simpa using he, by omega⟩, by simp [vInt]⟩
    | 1, _ =>
      gi_wp2
      · go_ret
        have e : orI c1 c2 = c2 := by simp [orI, hz1 (by omega)]
        exact ⟨by rw [e]; rfl, rfl⟩
      · rename_i he
        exact ⟨⟨2, by omega, rfl, trivial, fun _ => hz1 (by omega), fun _ => by simpa using he⟩, by simp [vInt]⟩
    | 2, _ =>
      gi_wp2
      go_ret
      have e : orI c1 c2 = 0 := by simp [orI, hz1 (by omega), hz2 (by omega)]
      exact ⟨by rw [e]; rfl, rfl⟩
def cfP (x y : Part) : Int := orI (Lib.compareInt y.r x.r) (Lib.compareInt x.i y.i)
set_option maxHeartbeats 4000000 in
theorem before_calls (x y : Part) (W : World) : Calls Tryz.prog 75 #[.agg #[.int .i64 x.i, .int .i64 x.c, .int .i64 x.r], .agg #[.int .i64 y.i, .int .i64 y.c, .int .i64 y.r]] W fun e w' => e = .returned (.int .i64 (cfP x y)) ∧ ∃ q os', w' = grow (W.drewN q) os' := by
  have hcon := fun a b W' => AnyG.cmp_Compare_int Tryz.lcmp a b W'
  change ∀ a b W', Calls Tryz.prog 36 _ _ _ at hcon
  have mixed := ftmixed
  have u3 := run_underlying (P := Tryz.prog) ft3; have u22 := run_underlying (P := Tryz.prog) ft22
  unfold cfP
  generalize e1 : Lib.compareInt y.r x.r = r1
  generalize e2 : Lib.compareInt x.i y.i = r2
  go_enter Tryz.func75, Tryz.ntmps75
  go_wp2_with (first | (go_at_call 36; refine (hcon _ _ _).mono ?_; rintro e w' ⟨rfl, rfl⟩) | (go_at_call 93; refine (or_calls _ r1 r2 _ ?_ ?_).mono ?_; rintro e w' ⟨rfl, rfl⟩))
  refine wp_region_still_tail 10 mixed (by kernel_rfl) ?_
  simp only [List.take_succ_cons, List.take_zero, List.drop_succ_cons, List.drop_zero]
  change wpStill _ _ (World.drew _) _ _ _
  change wpStill _ _ (World.drew ((W.alloc (.cells #[.int .i64 x.i, .int .i64 x.c, .int .i64 x.r] 112)).alloc (.cells #[.int .i64 y.i, .int .i64 y.c, .int .i64 y.r] 112))) (fun a' => wpList _ _ _ _ _ (World.drew ((W.alloc (.cells #[.int .i64 x.i, .int .i64 x.c, .int .i64 x.r] 112)).alloc (.cells #[.int .i64 y.i, .int .i64 y.c, .int .i64 y.r] 112)))) _ _
  obtain ⟨W3, hW3⟩ : ∃ W3, World.drew ((W.alloc (.cells #[.int .i64 x.i, .int .i64 x.c, .int .i64 x.r] 112)).alloc (.cells #[.int .i64 y.i, .int .i64 y.c, .int .i64 y.r] 112)) = W3 := ⟨_, rfl⟩
  rw [hW3]
  have f0 : W3.cell? ⟨W.heap.size, 0, none⟩ = some (.int .i64 x.i) := by rw [← hW3]; simp
  have f2 : W3.cell? ⟨W.heap.size, 2, none⟩ = some (.int .i64 x.r) := by rw [← hW3]; simp
  have k0 : W3.cell? ⟨W.heap.size + 1, 0, none⟩ = some (.int .i64 y.i) := by rw [← hW3]; simp
  have k2 : W3.cell? ⟨W.heap.size + 1, 2, none⟩ = some (.int .i64 y.r) := by rw [← hW3]; simp
  have hgr : ∃ q os', W3 = grow (W.drewN q) os' := ⟨1, _, by rw [← hW3, alloc_eq_grow, alloc_eq_grow, grow_grow]; rfl⟩
  clear hW3
  repeat (first | still_step | still_call (hcon _ _ _))
  refine wpStill_nil ?_
  go_wp2_with (go_at_call 93; refine (or_calls _ r1 r2 _ (by simp) (by simp)).mono ?_; rintro e w' ⟨rfl, rfl⟩)
  go_ret
  obtain ⟨q0, os0, rfl⟩ := hgr
  exact ⟨rfl, q0, _, by rw [alloc_eq_grow, grow_grow]⟩
end Go.Proofs.YtoiiblkncbnlaaaGreat

/-
  slices.SortFunc at the parts of an amount: what money.Split's walk asks. Conditions: those of each theorem.
-/
set_option linter.unusedVariables false
set_option linter.unusedSimpArgs false
namespace Go.Proofs.YtoiiblkncbnlaaaGreat
open Go.DL Go.RowKit Go.Shelf Go.Sort
instance : Inhabited Part := ⟨⟨0, 0, 0⟩⟩
def encK (p : Part) : List Value := [.int .i64 p.i, .int .i64 p.c, .int .i64 p.r]
theorem lt_ahead (x y : Part) : ltOf cfP x y = ahead x y := by
  unfold ltOf cfP orI Lib.compareInt ahead
  by_cases h1 : y.r < x.r
  · simp [h1]
  · by_cases h2 : x.r < y.r
    · have h3 : ¬ x.r = y.r := by omega
      simp [h1, h2, h3]
    · have h3 : x.r = y.r := by omega
      by_cases h4 : x.i < y.i
      · simp [h1, h2, h3, h4]
      · by_cases h5 : y.i < x.i <;> simp [h1, h2, h3, h4, h5]
theorem swoP : SWO (ltOf cfP) where
  irrefl x := by rw [lt_ahead]; simp [ahead]
  trans x y z h1 h2 := by
    rw [lt_ahead] at *
    simp only [ahead, Bool.or_eq_true, Bool.and_eq_true, decide_eq_true_eq] at *
    omega
  ntrans x y z h1 h2 := by
    rw [lt_ahead] at *
    simp only [ahead, Bool.or_eq_false_iff, Bool.and_eq_false_iff, decide_eq_false_iff_not] at *
    omega
theorem flatK_row (d : List Part) : (flatK encK 3 d.toArray).toList = rowV (d.map encPart) := by
  have hu : ∀ e ∈ d.map encPart, e.cells.length = 3 := fun e he => by obtain ⟨x, _, rfl⟩ := List.mem_map.1 he; rfl
  apply List.ext_getElem?
  intro t
  by_cases ht : t < d.length * 3
  · have hk : t / 3 < d.length := by omega
    have h1 : (d.map encPart)[t / 3]? = some (encPart d[t / 3]) := by rw [List.getElem?_map, List.getElem?_eq_getElem hk]; rfl
    have hsz : (flatK encK 3 d.toArray).size = d.length * 3 := by simp
    have h2 : (flatK encK 3 d.toArray).toList[t]? = some ((encK d[t / 3])[t % 3]!) := by
      rw [Array.getElem?_toList, Array.getElem?_eq_getElem (by rw [hsz]; exact ht)]
      have := get_flatK encK 3 d.toArray t (by simpa using ht)
      rw [getElem!_pos _ t (by rw [hsz]; exact ht)] at this
      rw [this, getElem!_pos d.toArray (t / 3) (by simpa using hk)]
      simp
    rw [h2, rowV, List.getElem?_map]
    have h3 : ∀ j c, (encPart d[t / 3]).cells[j]? = some c → (flat (d.map encPart))[t / 3 * 3 + j]? = some c := fun j c hj => flat_get (sz := 3) hu h1 hj
    have h4 : t = t / 3 * 3 + t % 3 := by omega
    clear h2 h1 hsz
    generalize d[t / 3] = q at h3 ⊢
    have h5 : t % 3 < 3 := Nat.mod_lt _ (by decide)
    generalize hm : t % 3 = m at h4 h5 ⊢
    rw [h4]
    match m, h5 with
    | 0, _ => rw [h3 0 _ rfl]; rfl
    | 1, _ => rw [h3 1 _ rfl]; rfl
    | 2, _ => rw [h3 2 _ rfl]; rfl
  · rw [List.getElem?_eq_none (by simp; omega), List.getElem?_eq_none (by rw [rowV, List.length_map, flat_length _ hu, List.length_map]; omega)]
theorem cmp_lays (blk off size : Nat) (w : World) : CmpLays Tryz.prog 75 #[] encK 3 cfP blk off size w := fun _ _ _ _ x y => before_calls x y _
theorem take_put (cur F : Array Value) (h : F.size ≤ cur.size) : (putCells id 0 F cur).toList.take F.size = F.toList := by
  apply List.ext_getElem?
  intro j
  by_cases hj : j < F.size
  · rw [List.getElem?_take_of_lt hj, Array.getElem?_toList]
    simp [putCells, hj, show j < cur.size by omega]
  · rw [List.getElem?_take_eq_none (by omega), List.getElem?_eq_none (by simp; omega)]
theorem sort_ok : SortOK Tryz.prog 74 75 112 3 encPart sortR := by
  refine ⟨⟨Tryz.f74, by kernel_rfl, by kernel_rfl, by kernel_rfl⟩, ?_⟩
  intro w blk cap cur d hne hlt hb hcap hmax hcs htk
  have hblk := (Array.getElem?_eq_some_iff.1 hb).1
  have hF : (flatK encK 3 d.toArray).size = d.length * 3 := by simp
  have hcur : d.length * 3 ≤ cur.size := by rw [hcs]; exact Nat.mul_le_mul_right _ hcap
  have hH : HoldsK encK 3 w blk 0 d.toArray := by
    intro j hj
    rw [hF] at hj
    refine ⟨?_, by simp [World.frozen?, hb]⟩
    have h1 : (cur.toList.take (d.length * 3))[j]? = (flatK encK 3 d.toArray).toList[j]? := by rw [htk, flatK_row]
    rw [List.getElem?_take_of_lt hj] at h1
    simp only [World.cell?, hb, Nat.zero_add, Option.isSome_none, Bool.false_eq_true, if_false]
    rw [← Array.getElem?_toList, h1, Array.getElem?_toList, Array.getElem?_eq_getElem (by rw [hF]; exact hj), getElem!_pos _ j (by rw [hF]; exact hj)]
    rfl
  have hcon := AnyQ.slices_SortFunc Tryz.lsort 3 Tryz.isAgg112 Tryz.sizeOf112 encK (fun _ => rfl) (fun x v hv => by simp [encK] at hv; rcases hv with rfl | rfl | rfl <;> rfl) cfP swoP 75 #[] blk 0 cap d.toArray w
    (enters_of Tryz.func75 (by kernel_rfl) rfl) (cmp_lays blk 0 _ w) hH hblk (by simpa using hlt)
  simp only [List.size_toArray] at hcon
  refine hcon.mono ?_
  rintro e w' ⟨rfl, d', n, os, hp, hs, rfl⟩
  have hsz : d'.size = d.length := by simpa using hp.1
  have hF' : (flatK encK 3 d').size = d.length * 3 := by simp [hsz]
  refine ⟨rfl, d'.toList, putCells id 0 (flatK encK 3 d') cur, ⟨?_, ?_⟩, by simpa using hsz, ⟨rfl, rfl, rfl, by simp [sortWorldK, putRowK], fun k hk hne' => ?_⟩, ?_, by simp [putCells], ?_⟩
  · have := hp.2.2
    rw [Array.extract_eq_self_of_le (by omega), Array.extract_eq_self_of_le (by simp)] at this
    simpa using this
  · rw [List.pairwise_iff_getElem]
    intro i j hi hj hij
    have := hs i j (Nat.zero_le _) hij (by simpa [hsz] using hj)
    rw [lt_ahead, getElem!_pos d' j (by simpa using hj), getElem!_pos d' i (by simpa using hi)] at this
    simpa using this
  · unfold sortWorldK putRowK
    rw [heap_grow_old _ _ (by simpa using hk)]
    have : blk ≠ k := fun e => hne' (by rw [e])
    simp [putRow, mapBlock, Sort.ahead, Array.getElem?_modify, this]
  · unfold sortWorldK putRowK
    rw [heap_grow_old _ _ (by simpa using hblk)]
    simp [putRow, mapBlock, Sort.ahead, Array.getElem?_modify, hb, onCells]
  · have := take_put cur (flatK encK 3 d') (by rw [hF']; exact hcur)
    rw [hF'] at this
    rw [this]
    have := flatK_row d'.toList
    rwa [Array.toArray_toList] at this
end Go.Proofs.YtoiiblkncbnlaaaGreat

/-
  Walks at the data level, printed by gen.py: what each Go function returns, for data that reads as said. Conditions: those of each theorem.
-/
namespace Go.Proofs.YtoiiblkncbnlaaaGreat
open Go.DL
set_option maxRecDepth 100000
set_option linter.unusedVariables false
set_option linter.unusedSimpArgs false
theorem ret_cloneI (l : List Int) (hl : l.length ≤ 100000) : Ret Tryz.prog 76 [(.sl 1 (l.map encI))] (.sl 1 (l.map encI)) := by
  refine Ret.of_T Tryz.func76 (by kernel_rfl) rfl ?_
  refine T_turn [] [0] [] (mk 8 [(0, (dt (.sl 1 (l.map encI))))] []) (by kernel_rfl) ?_
  refine T_reg [] [0] [] (mk 8 [(0, (dt (.sl 1 (l.map encI))))] []) (True ∧ True ∧ True) (by kernel_rfl) ⟨trivial, trivial, trivial⟩ ?_
  refine T_seq ?_
  refine T_seq (T_parts ?_)
  refine TL_part 1 [] (mk 8 [(0, (dt (.sl 1 (l.map encI)))), (3, (dt (.sl 1 (l.map encI))))] []) (True ∧ True ∧ True) (by kernel_rfl) ⟨trivial, trivial, trivial⟩ rfl ?_
  refine TL_nil (sz := 1) (es := l.map encI) rfl rfl ⟨3, by kernel_rfl⟩ (by kernel_rfl) (fun b1 hb2 => ?_)
  rcases b1 with _ | _
  · skip
    refine TL_nilQ ?_
    refine T_turn [] [0, 4] [] (mk 8 [(0, (dt (.sl 1 (l.map encI)))), (4, (dt (B false)))] []) (by kernel_rfl) ?_
    refine T_cond false (by kernel_rfl) (fun h => absurd (h.symm.trans rfl) (by decide)) (fun _ => ?_)
    refine T_skip ?_
    refine T_reg [{}, {}, { d := some (.sl 1 (l.map encI)) }] [2] [] (mk 8 [(2, (.one (.own 7)))] [(7, (.row 3 1 (l.map encI)))]) (True ∧ (dfill (fun i => some (i * 1, 1)) (List.replicate (0 * 1) .junk) [] = some ((flat (([] : List Int).map encI)).map .dat)) ∧ True ∧ True ∧ True ∧ (((([] : List Int).map encI).length + (l.map encI).length) * 8 ≤ 140737488355328 ∧ cellsOne (l.map encI) ∧ (([] : List Int).map encI) ++ l.map encI = l.map encI) ∧ True ∧ True ∧ True) (by kernel_rfl) ⟨trivial, rfl, trivial, trivial, trivial, ⟨by simp only [List.length_map, List.length_nil, List.length_cons]; omega, encI_one _, by simp⟩, trivial, trivial, trivial⟩ ?_
    refine T_ret ?_
    exact ret_here [(.one (.own 7))] (by kernel_rfl) rfl
  · skip
    have nil3 : l = [] := by simpa using hb2 rfl
    refine TL_nilQ ?_
    refine T_turn [] [0, 4] [] (mk 8 [(0, (dt (.sl 1 (l.map encI)))), (4, (dt (B true)))] []) (by kernel_rfl) ?_
    refine T_cond true (by kernel_rfl) (fun _ => ?_) (fun h => absurd (h.symm.trans rfl) (by decide))
    refine T_reg [] [2] [] (mk 8 [(2, (dt nilS))] []) (True ∧ True ∧ True) (by kernel_rfl) ⟨trivial, trivial, trivial⟩ ?_
    refine T_ret ?_
    exact ret_here [(dt nilS)] (by kernel_rfl) (.inr ⟨rfl, 1, (by show D.sl _ _ = _; exact congrArg (fun l => D.sl 1 (l.map encI)) (by simp_all : l = []))⟩)

theorem ret_parts (a n : Int) (ws : List Int) : Ret Tryz.prog 73 [(I a), (.sl 1 (ws.map encI)), (I n)] (.fn 91 [(.ptr [(.sl 1 (ws.map encI))]), (.ptr [(I a)]), (.ptr [(I n)])]) := by
  refine Ret.of_T Tryz.func73 (by kernel_rfl) rfl ?_
  refine T_turn [] [0, 1, 2] [] (mk 8 [(0, (dt (I a))), (1, (dt (.sl 1 (ws.map encI)))), (2, (dt (I n)))] []) (by kernel_rfl) ?_
  refine T_reg [] [3, 4, 5] [] (mk 8 [(3, (.one (.ref 3 0))), (4, (.one (.ref 4 0))), (5, (.one (.ref 5 0)))] [(5, (.var [(.dat (I n))])), (4, (.var [(.dat (.sl 1 (ws.map encI)))])), (3, (.var [(.dat (I a))]))]) (True ∧ True ∧ True ∧ True ∧ True ∧ True ∧ True ∧ True ∧ True) (by kernel_rfl) ⟨trivial, trivial, trivial, trivial, trivial, trivial, trivial, trivial, trivial⟩ ?_
  refine T_turn [3, 4, 5] [3, 4, 5] [] (mk 8 [(3, (dt (.ptr [(I a)]))), (4, (dt (.ptr [(.sl 1 (ws.map encI))]))), (5, (dt (.ptr [(I n)])))] []) (by kernel_rfl) ?_
  refine T_reg [] [6] [] (mk 8 [(6, (.one (.fn 91 [.inr (.ptr [(.sl 1 (ws.map encI))]), .inr (.ptr [(I a)]), .inr (.ptr [(I n)])])))] []) (True ∧ True ∧ True ∧ True ∧ True) (by kernel_rfl) ⟨trivial, trivial, trivial, trivial, trivial⟩ ?_
  refine T_ret ?_
  exact ret_here [(.one (.fn 91 [.inr (.ptr [(.sl 1 (ws.map encI))]), .inr (.ptr [(I a)]), .inr (.ptr [(I n)])]))] (by kernel_rfl) rfl

theorem ret_split (a : Int) (ws : List Int) (ha : 0 ≤ a) (ha2 : a ≤ 1125899906842624) (hw : ∀ x ∈ ws, 0 ≤ x ∧ x ≤ 1000) (hl : ws.length ≤ 256) (hs : 0 < sumL 0 ws) : Ret Tryz.prog 57 [(I a), (.sl 1 (ws.map encI))] (.tup [(.sl 1 ((splitW a (sumL 0 ws) ws).map encI)), (I 0)]) := by
  refine Ret.of_T Tryz.func57 (by kernel_rfl) rfl ?_
  refine T_turn [] [0, 1] [] (mk 89 [(0, (dt (I a))), (1, (dt (.sl 1 (ws.map encI))))] []) (by kernel_rfl) ?_
  refine T_reg [] [0, 1] [] (mk 89 [(0, (dt (I a))), (1, (dt (.sl 1 (ws.map encI))))] []) (True ∧ True ∧ True ∧ True ∧ True) (by kernel_rfl) ⟨trivial, trivial, trivial, trivial, trivial⟩ ?_
  refine T_seq ?_
  refine T_reg [{}, { d := some (I (chkM a)) }] [0, 1, 18] [] (mk 89 [(0, (dt (I a))), (1, (dt (.sl 1 (ws.map encI)))), (18, (dt (B ((chkM a) != 0))))] []) (True ∧ True ∧ True ∧ (Ret Tryz.prog 54 [(I a)] (I (chkM a))) ∧ True ∧ True ∧ True) (by kernel_rfl) ⟨trivial, trivial, trivial, (ret_chkM _), trivial, trivial, trivial⟩ ?_
  refine T_cond ((chkM a) != 0) (by kernel_rfl) (fun h1 => ?_) (fun h1 => ?_)
  · skip
    have g2 : (chkM a) ≠ 0 := bne_iff_ne.1 (h1)
    exact (by exfalso; have := chkM_cases a; have h0 := sumL_nil ws; first | omega | (have := sumL_end iv (by omega); omega))
  · skip
    have g3 : (chkM a) = 0 := bne_f (h1)
    refine T_skip ?_
    refine T_seq ?_
    refine T_reg [{}, { d := some (I ((ws.length : Nat) : Int)) }] [0, 1, 21] [] (mk 89 [(0, (dt (I a))), (1, (dt (.sl 1 (ws.map encI)))), (21, (dt (B (decide (((ws.length : Nat) : Int) > 256)))))] []) (True ∧ True ∧ True ∧ (True ∧ D.int .i64 ((ws.map encI).length : Int) = (I ((ws.length : Nat) : Int))) ∧ True ∧ True ∧ True) (by kernel_rfl) ⟨trivial, trivial, trivial, ⟨trivial, by rw [List.length_map]⟩, trivial, trivial, trivial⟩ ?_
    refine T_cond (decide (((ws.length : Nat) : Int) > 256)) (by kernel_rfl) (fun h4 => ?_) (fun h4 => ?_)
    · skip
      have g5 : ((ws.length : Nat) : Int) > 256 := of_decide_eq_true (h4)
      exact (by exfalso; have := chkM_cases a; have h0 := sumL_nil ws; first | omega | (have := sumL_end iv (by omega); omega))
    · skip
      have g6 : ¬ (((ws.length : Nat) : Int) > 256) := of_decide_eq_false (h4)
      refine T_skip ?_
      refine T_reg [] [0, 1, 6] [] (mk 89 [(0, (dt (I a))), (1, (dt (.sl 1 (ws.map encI)))), (6, (dt (I 0)))] []) (True ∧ True ∧ True) (by kernel_rfl) ⟨trivial, trivial, trivial⟩ ?_
      refine T_seq ?_
      refine T_reg [{}, { d := some (I ((ws.length : Nat) : Int)) }] [0, 1, 6, 22, 23, 24] [] (mk 89 [(0, (dt (I a))), (1, (dt (.sl 1 (ws.map encI)))), (6, (dt (I 0))), (22, (dt (.sl 1 (ws.map encI)))), (23, (dt (I ((ws.length : Nat) : Int)))), (24, (dt (I 0)))] []) (True ∧ True ∧ True ∧ (True ∧ D.int .i64 ((ws.map encI).length : Int) = (I ((ws.length : Nat) : Int))) ∧ True ∧ True ∧ True) (by kernel_rfl) ⟨trivial, trivial, trivial, ⟨trivial, by rw [List.length_map]⟩, trivial, trivial, trivial⟩ ?_
      refine T_block ?_
      refine T_turn [] [0, 1, 6, 22, 23, 24] [] ((fun ((k, n) : Nat × Int) => (mk 89 [(0, (dt (I a))), (1, (dt (.sl 1 (ws.map encI)))), (6, (dt (I n))), (22, (dt (.sl 1 (ws.map encI)))), (23, (dt (I ((ws.length : Nat) : Int)))), (24, (dt (I ((k : Nat) : Int))))] [])) (0, 0)) (by kernel_rfl) (T_loop (α := Nat × Int) (fun ((k, n) : Nat × Int) => (mk 89 [(0, (dt (I a))), (1, (dt (.sl 1 (ws.map encI)))), (6, (dt (I n))), (22, (dt (.sl 1 (ws.map encI)))), (23, (dt (I ((ws.length : Nat) : Int)))), (24, (dt (I ((k : Nat) : Int))))] [])) (fun ((k, n) : Nat × Int) => (k ≤ (ws).length) ∧ (sumL n (ws.drop k) = sumL 0 ws) ∧ (0 ≤ n ∧ n ≤ 1000 * (k : Int)) ∧ True) (fun ((k, n) : Nat × Int) => (ws).length - k) (0, 0) ⟨Nat.zero_le _, rfl, ⟨Int.le_refl _, by simp⟩, trivial⟩ ?_)
      rintro ⟨k, n⟩ ⟨ik, iv, ib, _⟩
      refine T_reg [] [0, 1, 6, 22, 23, 24, 25] [] (mk 89 [(0, (dt (I a))), (1, (dt (.sl 1 (ws.map encI)))), (6, (dt (I n))), (22, (dt (.sl 1 (ws.map encI)))), (23, (dt (I ((ws.length : Nat) : Int)))), (24, (dt (I ((k : Nat) : Int)))), (25, (dt (B (decide (((k : Nat) : Int) < ((ws.length : Nat) : Int))))))] []) (True ∧ True ∧ True) (by kernel_rfl) ⟨trivial, trivial, trivial⟩ ?_
      refine T_seq ?_
      refine T_cond (decide (((k : Nat) : Int) < ((ws.length : Nat) : Int))) (by kernel_rfl) (fun h7 => ?_) (fun h7 => ?_)
      · skip
        have g8 : ((k : Nat) : Int) < ((ws.length : Nat) : Int) := of_decide_eq_true (h7)
        refine T_skip ?_
        refine T_seq ?_
        refine T_block ?_
        have lt9 : k < (ws).length := by first | omega | (simp only [List.length_set, List.length_map, List.length_append, List.length_cons, List.length_nil] at *; omega)
        obtain ⟨x10, hx11⟩ : ∃ x, (ws)[k]? = some x := ⟨_, List.getElem?_eq_getElem lt9⟩
        have hwx := hw _ (List.mem_of_getElem? hx11)
        refine T_reg [{ d := some (I x10) }] [0, 1, 6, 8, 22, 23, 24] [] (mk 89 [(0, (dt (I a))), (1, (dt (.sl 1 (ws.map encI)))), (6, (dt (I n))), (8, (dt (I x10))), (22, (dt (.sl 1 (ws.map encI)))), (23, (dt (I ((ws.length : Nat) : Int)))), (24, (dt (I ((k : Nat) : Int))))] []) (True ∧ (0 ≤ ((k : Nat) : Int) ∧ (ws.map encI)[k]? = some (I x10)) ∧ True ∧ True ∧ True ∧ True ∧ True) (by kernel_rfl) ⟨trivial, ⟨by omega, by rw [List.getElem?_map, hx11]; rfl⟩, trivial, trivial, trivial, trivial, trivial⟩ ?_
        refine T_seq ?_
        rcases Bool.eq_false_or_eq_true (decide (x10 < 0)) with h12 | h12
        · skip
          have g13 : x10 < 0 := of_decide_eq_true (h12)
          exact (by exfalso; have := hw _ (List.mem_of_getElem? hx11); omega)
        · skip
          have g14 : ¬ (x10 < 0) := of_decide_eq_false (h12)
          refine T_reg [{}, {}, {}, {}, {}, { d := some (B false) }] [0, 1, 6, 8, 22, 23, 24, 33] [] (mk 89 [(0, (dt (I a))), (1, (dt (.sl 1 (ws.map encI)))), (6, (dt (I n))), (8, (dt (I x10))), (22, (dt (.sl 1 (ws.map encI)))), (23, (dt (I ((ws.length : Nat) : Int)))), (24, (dt (I ((k : Nat) : Int)))), (33, (dt (B (decide (x10 > 1000)))))] []) (True ∧ True ∧ True ∧ True ∧ True ∧ True ∧ (((decide (x10 < 0)) == false) = true) ∧ True ∧ (((decide (x10 < 0)) == false) = true) ∧ True ∧ True ∧ ((decide (x10 < 0)) = false) ∧ True) (by kernel_rfl) ⟨trivial, trivial, trivial, trivial, trivial, trivial, (by rw [show (decide (x10 < 0)) = false from h12]; rfl), trivial, (by rw [show (decide (x10 < 0)) = false from h12]; rfl), trivial, trivial, h12, trivial⟩ ?_
          refine T_cond (decide (x10 > 1000)) (by kernel_rfl) (fun h15 => ?_) (fun h15 => ?_)
          · skip
            have g16 : x10 > 1000 := of_decide_eq_true (h15)
            exact (by exfalso; have := hw _ (List.mem_of_getElem? hx11); omega)
          · skip
            have g17 : ¬ (x10 > 1000) := of_decide_eq_false (h15)
            refine T_skip ?_
            refine T_regE [{}, {}, { d := some (I (n + x10)) }] (mk 89 [(0, (dt (I a))), (1, (dt (.sl 1 (ws.map encI)))), (6, (dt (I (n + x10)))), (8, (dt (I x10))), (22, (dt (.sl 1 (ws.map encI)))), (23, (dt (I ((ws.length : Nat) : Int)))), (24, (dt (I ((k : Nat) : Int)))), (33, (dt (B (decide (x10 > 1000))))), (34, (dt (I n))), (35, (dt (I x10))), (36, (dt (I (n + x10))))] []) (True ∧ True ∧ True ∧ True ∧ True ∧ (IntKind.i64.wrap (n + x10) = (n + x10)) ∧ True ∧ True ∧ True) (by kernel_rfl) ⟨trivial, trivial, trivial, trivial, trivial, (i64_wrap (by omega) (by omega)), trivial, trivial, trivial⟩ ?_
            refine T_regE [{ d := some (I ((k + 1 : Nat) : Int)) }] (mk 89 [(0, (dt (I a))), (1, (dt (.sl 1 (ws.map encI)))), (6, (dt (I (n + x10)))), (8, (dt (I x10))), (22, (dt (.sl 1 (ws.map encI)))), (23, (dt (I ((ws.length : Nat) : Int)))), (24, (dt (I ((k + 1 : Nat) : Int)))), (33, (dt (B (decide (x10 > 1000))))), (34, (dt (I n))), (35, (dt (I x10))), (36, (dt (I (n + x10)))), (37, (dt (I ((k + 1 : Nat) : Int))))] []) (True ∧ (IntKind.i64.wrap (((k : Nat) : Int) + 1) = ((k + 1 : Nat) : Int)) ∧ True ∧ True ∧ True) (by kernel_rfl) ⟨trivial, (by rw [i64_wrap (by omega) (by omega)]; omega), trivial, trivial, trivial⟩ ?_
            refine Exists.intro (k + 1, (n + x10)) ⟨⟨by omega, by rw [← iv, drop_cons hx11]; rfl, by have := hw _ (List.mem_of_getElem? hx11); omega, trivial⟩, by first | omega | (dsimp only; omega), le_turn [] [0, 1, 6, 22, 23, 24] [] (by kernel_rfl)⟩
      · skip
        have g18 : ¬ (((k : Nat) : Int) < ((ws.length : Nat) : Int)) := of_decide_eq_false (h7)
        refine T_exit ?_
        refine T_seq ?_
        refine T_reg [] [0, 1, 6, 39] [] (mk 89 [(0, (dt (I a))), (1, (dt (.sl 1 (ws.map encI)))), (6, (dt (I n))), (39, (dt (B (n == 0))))] []) (True ∧ True ∧ True ∧ True ∧ True) (by kernel_rfl) ⟨trivial, trivial, trivial, trivial, trivial⟩ ?_
        refine T_cond (n == 0) (by kernel_rfl) (fun h19 => ?_) (fun h19 => ?_)
        · skip
          have g20 : n = 0 := eq_of_beq (h19)
          exact (by exfalso; have := chkM_cases a; have h0 := sumL_nil ws; first | omega | (have := sumL_end iv (by omega); omega))
        · skip
          have g21 : n ≠ 0 := ne_of_beq_false (h19)
          refine T_skip ?_
          refine T_reg [] [0, 1, 6, 9] [] (mk 89 [(0, (dt (I a))), (1, (dt (.sl 1 (ws.map encI)))), (6, (dt (I n))), (9, (dt (I 1)))] []) (True ∧ True ∧ True) (by kernel_rfl) ⟨trivial, trivial, trivial⟩ ?_
          refine T_seq ?_
          refine T_reg [] [0, 1, 6, 9, 41] [] (mk 89 [(0, (dt (I a))), (1, (dt (.sl 1 (ws.map encI)))), (6, (dt (I n))), (9, (dt (I 1))), (41, (dt (B (decide (a < 0)))))] []) (True ∧ True ∧ True ∧ True ∧ True) (by kernel_rfl) ⟨trivial, trivial, trivial, trivial, trivial⟩ ?_
          refine T_cond (decide (a < 0)) (by kernel_rfl) (fun h22 => ?_) (fun h22 => ?_)
          · skip
            have g23 : a < 0 := of_decide_eq_true (h22)
            exact (by exfalso; have := chkM_cases a; have h0 := sumL_nil ws; first | omega | (have := sumL_end iv (by omega); omega))
          · skip
            have g24 : ¬ (a < 0) := of_decide_eq_false (h22)
            refine T_skip ?_
            refine T_reg [{}, {}, { d := some (I a) }] [1, 6, 9, 10] [] (mk 89 [(1, (dt (.sl 1 (ws.map encI)))), (6, (dt (I n))), (9, (dt (I 1))), (10, (.one (.ref 10 0)))] [(10, (.var [(.dat (I a))]))]) (True ∧ True ∧ True ∧ True ∧ True ∧ (IntKind.i64.wrap (1 * a) = a) ∧ True ∧ True ∧ True ∧ True ∧ True) (by kernel_rfl) ⟨trivial, trivial, trivial, trivial, trivial, (by rw [Int.one_mul]; exact (i64_wrap (by omega) (by omega))), trivial, trivial, trivial, trivial, trivial⟩ ?_
            refine T_seq (T_parts ?_)
            refine TL_arr 106 11 11 1 ((List.replicate 256 (0 : Int)).map encI) rfl rfl rfl (by kernel_rfl) (by kernel_rfl) (by decide) (by decide) ?_
            refine TL_turn [] [1, 6, 9, 10, 11] [] (mk 89 [(1, (dt (.sl 1 (ws.map encI)))), (6, (dt (I n))), (9, (dt (I 1))), (10, (.one (.ref 10 0))), (11, (.one (.rref 11 0 0)))] [(11, (.row 106 1 ((List.replicate 256 (0 : Int)).map encI))), (10, (.var [(.dat (I a))]))]) (by kernel_rfl) ?_
            refine TL_nilQ ?_
            refine T_turn [] [1, 6, 9, 10, 11] [] (mk 89 [(1, (dt (.sl 1 (ws.map encI)))), (6, (dt (I n))), (9, (dt (I 1))), (10, (.one (.ref 10 0))), (11, (.one (.rref 11 0 0)))] [(11, (.row 106 1 ((List.replicate 256 (0 : Int)).map encI))), (10, (.var [(.dat (I a))]))]) (by kernel_rfl) ?_
            refine T_reg [] [1, 6, 9, 10, 11, 12] [] (mk 89 [(1, (dt (.sl 1 (ws.map encI)))), (6, (dt (I n))), (9, (dt (I 1))), (10, (.one (.ref 10 0))), (11, (.one (.rref 11 0 0))), (12, (.one (.ref 12 0)))] [(12, (.var [(.dat nilS)])), (11, (.row 106 1 ((List.replicate 256 (0 : Int)).map encI))), (10, (.var [(.dat (I a))]))]) (True ∧ True ∧ True) (by kernel_rfl) ⟨trivial, trivial, trivial⟩ ?_
            refine T_seq ?_
            refine T_reg [{}, {}, {}, { d := some (.fn 91 [(.ptr [(.sl 1 (ws.map encI))]), (.ptr [(I a)]), (.ptr [(I n)])]) }] [1, 9, 10, 11, 12, 48] [] (mk 89 [(1, (dt (.sl 1 (ws.map encI)))), (9, (dt (I 1))), (10, (.one (.ref 10 0))), (11, (.one (.rref 11 0 0))), (12, (.one (.ref 12 0))), (48, (dt (.fn 91 [(.ptr [(.sl 1 (ws.map encI))]), (.ptr [(I a)]), (.ptr [(I n)])])))] [(12, (.var [(.dat nilS)])), (11, (.row 106 1 ((List.replicate 256 (0 : Int)).map encI))), (10, (.var [(.dat (I a))]))]) (True ∧ True ∧ True ∧ True ∧ True ∧ True ∧ True ∧ (Ret Tryz.prog 73 [(I a), (.sl 1 (ws.map encI)), (I n)] (.fn 91 [(.ptr [(.sl 1 (ws.map encI))]), (.ptr [(I a)]), (.ptr [(I n)])])) ∧ True) (by kernel_rfl) ⟨trivial, trivial, trivial, trivial, trivial, trivial, trivial, (ret_parts _ _ _), trivial⟩ ?_
            refine T_block ?_
            refine T_ownCell 12 0 142 112 3 (mk 89 [(1, (dt (.sl 1 (ws.map encI)))), (9, (dt (I 1))), (10, (.one (.ref 10 0))), (11, (.one (.rref 11 0 0))), (12, (.one (.ref 12 0))), (48, (dt (.fn 91 [(.ptr [(.sl 1 (ws.map encI))]), (.ptr [(I a)]), (.ptr [(I n)])])))] [(142, (.row 112 3 (([] : List Part).map encPart))), (12, (.var [(.own 142)])), (11, (.row 106 1 ((List.replicate 256 (0 : Int)).map encI))), (10, (.var [(.dat (I a))]))]) (by kernel_rfl) (by decide) ?_
            refine T_turn [] [1, 9, 10, 11, 12, 48] [] (mk 89 [(1, (dt (.sl 1 (ws.map encI)))), (9, (dt (I 1))), (10, (.one (.ref 10 0))), (11, (.one (.rref 11 0 0))), (12, (.one (.ref 12 0))), (48, (dt (.fn 91 [(.ptr [(.sl 1 (ws.map encI))]), (.ptr [(I a)]), (.ptr [(I n)])])))] [(142, (.row 112 3 (([] : List Part).map encPart))), (12, (.var [(.own 142)])), (11, (.row 106 1 ((List.replicate 256 (0 : Int)).map encI))), (10, (.var [(.dat (I (leftOf a ([] : List Part))))]))]) (by kernel_rfl) ?_
            refine T_range (α := Part) 89 91 [(.ptr [(.sl 1 (ws.map encI))]), (.ptr [(I a)]), (.ptr [(I n)])] valPart (fun x => (.agg [(.dat (I x.i)), (.dat (I x.c)), (.dat (I x.r))])) (partsOf a n ws) (fun pre => (mk 89 [(1, (dt (.sl 1 (ws.map encI)))), (9, (dt (I 1))), (10, (.one (.ref 10 0))), (11, (.one (.rref 11 0 0))), (12, (.one (.ref 12 0))), (48, (dt (.fn 91 [(.ptr [(.sl 1 (ws.map encI))]), (.ptr [(I a)]), (.ptr [(I n)])])))] [(142, (.row 112 3 (pre.map encPart))), (12, (.var [(.own 142)])), (11, (.row 106 1 ((List.replicate 256 (0 : Int)).map encI))), (10, (.var [(.dat (I (leftOf a pre)))]))])) _ (fun x w A M => part_rel x w A M) (by decide) rfl (fun pre _ => by kernel_rfl) (parts_iter a n ws (by have := sumL_end iv (by omega); omega) (by omega) ha ha2 hw hl) (fun r pre x hp25 => ?_) ?_
            · skip
              have hm := part_bounds2 ha ha2 (s := n) (by have := sumL_end iv (by omega); omega) hw hl (fun x hx => by have := le_sumL (fun y hy => (hw y hy).1) hx; have := sumL_end iv (by omega); omega) (prefix_mem hp25)
              have hpl := prefix_len hp25
              have hlf := leftOf_bounds ha ha2 (s := n) (by have := sumL_end iv (by omega); omega) hw hl (fun x hx => by have := le_sumL (fun y hy => (hw y hy).1) hx; have := sumL_end iv (by omega); omega) ((List.prefix_append _ _).trans hp25)
              have hpl2 := partsOf_length a n ws
              refine TI_region (by decide) (TL_turn [] [10, 12, 49] [] (mk 89 [(10, (.one (.ref 10 0))), (12, (.one (.ref 12 0))), (49, (.agg [(.dat (I x.i)), (.dat (I x.c)), (.dat (I x.r))]))] [(142, (.row 112 3 (pre.map encPart))), (12, (.var [(.own 142)])), (11, (.row 106 1 ((List.replicate 256 (0 : Int)).map encI))), (10, (.var [(.dat (I (leftOf a pre)))]))]) (by kernel_rfl) ?_)
              refine TL_part 2 [] (mk 89 [(10, (.one (.ref 10 0))), (12, (.one (.ref 12 0))), (13, (.one (.ref 102 0))), (49, (.agg [(.dat (I x.i)), (.dat (I x.c)), (.dat (I x.r))]))] [(102, (.var [(.dat (I x.i)), (.dat (I x.c)), (.dat (I x.r))])), (142, (.row 112 3 (pre.map encPart))), (12, (.var [(.own 142)])), (11, (.row 106 1 ((List.replicate 256 (0 : Int)).map encI))), (10, (.var [(.dat (I (leftOf a pre)))]))]) (True ∧ True ∧ True ∧ True ∧ True) (by kernel_rfl) ⟨trivial, trivial, trivial, trivial, trivial⟩ rfl ?_
              refine TL_nilQ ?_
              refine And.intro rfl ?_
              refine TI_block ?_
              refine TI_seq ?_
              refine TI_region (by decide) (TL_turn [] [10, 12, 13] [] (mk 89 [(10, (.one (.ref 10 0))), (12, (.one (.ref 12 0))), (13, (.one (.ref 102 0)))] [(102, (.var [(.dat (I x.i)), (.dat (I x.c)), (.dat (I x.r))])), (142, (.row 112 3 (pre.map encPart))), (12, (.var [(.own 142)])), (11, (.row 106 1 ((List.replicate 256 (0 : Int)).map encI))), (10, (.var [(.dat (I (leftOf a pre)))]))]) (by kernel_rfl) ?_)
              refine TL_part 5 [{}, {}, {}, { d := some (.sl 3 ((pre ++ [(⟨x.i, x.c, x.r⟩ : Part)]).map encPart)) }] (mk 89 [(10, (.one (.ref 10 0))), (12, (.one (.ref 12 0))), (13, (.one (.ref 102 0))), (51, (.agg [(.dat (I x.i)), (.dat (I x.c)), (.dat (I x.r))])), (52, (.one (.own 141))), (53, (.one (.own 142)))] [(142, (.row 112 3 ((pre ++ [(⟨x.i, x.c, x.r⟩ : Part)]).map encPart))), (141, (.row 112 3 ([(⟨x.i, x.c, x.r⟩ : Part)].map encPart))), (102, (.var [(.dat (I x.i)), (.dat (I x.c)), (.dat (I x.r))])), (12, (.var [(.own 142)])), (11, (.row 106 1 ((List.replicate 256 (0 : Int)).map encI))), (10, (.var [(.dat (I (leftOf a pre)))]))]) (True ∧ True ∧ True ∧ True ∧ True ∧ (dfill (fun i => some (i * 3, 3)) (List.replicate (1 * 3) .junk) [(0, [(.dat (I x.i)), (.dat (I x.c)), (.dat (I x.r))])] = some ((flat ([(⟨x.i, x.c, x.r⟩ : Part)].map encPart)).map .dat)) ∧ True ∧ (((pre.map encPart).length + ([(⟨x.i, x.c, x.r⟩ : Part)].map encPart).length) * 24 ≤ 140737488355328 ∧ cellsOne ([(⟨x.i, x.c, x.r⟩ : Part)].map encPart) ∧ (pre.map encPart) ++ [(⟨x.i, x.c, x.r⟩ : Part)].map encPart = (pre ++ [(⟨x.i, x.c, x.r⟩ : Part)]).map encPart) ∧ True ∧ True ∧ True) (by kernel_rfl) ⟨trivial, trivial, trivial, trivial, trivial, rfl, trivial, ⟨by simp only [List.length_map, List.length_nil, List.length_cons]; omega, encPart_one _, by simp⟩, trivial, trivial, trivial⟩ rfl ?_
              refine TL_nilQ ?_
              refine TI_region (by decide) (TL_turn [] [10, 13] [141] (mk 89 [(10, (.one (.ref 10 0))), (13, (.one (.ref 102 0)))] [(142, (.row 112 3 ((pre ++ [(⟨x.i, x.c, x.r⟩ : Part)]).map encPart))), (102, (.var [(.dat (I x.i)), (.dat (I x.c)), (.dat (I x.r))])), (12, (.var [(.own 142)])), (11, (.row 106 1 ((List.replicate 256 (0 : Int)).map encI))), (10, (.var [(.dat (I (leftOf a pre)))]))]) (by kernel_rfl) ?_)
              refine TL_part 5 [{}, {}, {}, { d := some (I ((leftOf a pre) - x.c)) }] (mk 89 [(10, (.one (.ref 10 0))), (13, (.one (.ref 102 0))), (54, (dt (I (leftOf a pre)))), (55, (.one (.ref 102 1))), (56, (dt (I x.c))), (57, (dt (I ((leftOf a pre) - x.c))))] [(142, (.row 112 3 ((pre ++ [(⟨x.i, x.c, x.r⟩ : Part)]).map encPart))), (102, (.var [(.dat (I x.i)), (.dat (I x.c)), (.dat (I x.r))])), (12, (.var [(.own 142)])), (11, (.row 106 1 ((List.replicate 256 (0 : Int)).map encI))), (10, (.var [(.dat (I ((leftOf a pre) - x.c)))]))]) (True ∧ True ∧ True ∧ True ∧ True ∧ True ∧ True ∧ (IntKind.i64.wrap ((leftOf a pre) - x.c) = ((leftOf a pre) - x.c)) ∧ True ∧ True ∧ True) (by kernel_rfl) ⟨trivial, trivial, trivial, trivial, trivial, trivial, trivial, (i64_wrap (by omega) (by omega)), trivial, trivial, trivial⟩ rfl ?_
              refine TL_nilQ ?_
              refine And.intro rfl ?_
              exact (le_turn (s' := (mk 89 [(1, (dt (.sl 1 (ws.map encI)))), (9, (dt (I 1))), (10, (.one (.ref 10 0))), (11, (.one (.rref 11 0 0))), (12, (.one (.ref 12 0))), (48, (dt (.fn 91 [(.ptr [(.sl 1 (ws.map encI))]), (.ptr [(I a)]), (.ptr [(I n)])])))] [(142, (.row 112 3 ((pre ++ [(⟨x.i, x.c, x.r⟩ : Part)]).map encPart))), (12, (.var [(.own 142)])), (11, (.row 106 1 ((List.replicate 256 (0 : Int)).map encI))), (10, (.var [(.dat (I ((leftOf a pre) - x.c)))]))])) [] [1, 9, 10, 11, 12, 48] [102] (by kernel_rfl)).trans (DS.le_of_eq (by simp only [leftOf_snoc]))
            refine T_seq (T_parts ?_)
            refine TL_part 1 [] (mk 89 [(1, (dt (.sl 1 (ws.map encI)))), (9, (dt (I 1))), (10, (.one (.ref 10 0))), (11, (.one (.rref 11 0 0))), (12, (.one (.ref 12 0))), (48, (dt (.fn 91 [(.ptr [(.sl 1 (ws.map encI))]), (.ptr [(I a)]), (.ptr [(I n)])]))), (58, (.one (.own 142)))] [(142, (.row 112 3 ((partsOf a n ws).map encPart))), (12, (.var [(.own 142)])), (11, (.row 106 1 ((List.replicate 256 (0 : Int)).map encI))), (10, (.var [(.dat (I (leftOf a (partsOf a n ws))))]))]) (True ∧ True ∧ True) (by kernel_rfl) ⟨trivial, trivial, trivial⟩ rfl ?_
            refine TL_sort (enc := encPart) (R := sortR) 74 75 112 3 sort_ok rfl rfl (by kernel_rfl) 142 (by kernel_rfl) (by kernel_rfl) (partsOf a n ws) (by kernel_rfl) (parts_ne hs) (by rw [partsOf_length]; omega) (fun _ => ⟨rfl, rfl⟩) (fun d26 hR27 hl28 => ?_)
            refine TL_turn [] [1, 9, 10, 11, 12, 59] [] (mk 89 [(1, (dt (.sl 1 (ws.map encI)))), (9, (dt (I 1))), (10, (.one (.ref 10 0))), (11, (.one (.rref 11 0 0))), (12, (.one (.ref 12 0))), (59, (dt (.tup [])))] [(142, (.row 112 3 (d26.map encPart))), (12, (.var [(.own 142)])), (11, (.row 106 1 ((List.replicate 256 (0 : Int)).map encI))), (10, (.var [(.dat (I (leftOf a (partsOf a n ws))))]))]) (by kernel_rfl) ?_
            refine TL_nilQ ?_
            refine T_turn [] [1, 9, 10, 11, 12] [] (mk 89 [(1, (dt (.sl 1 (ws.map encI)))), (9, (dt (I 1))), (10, (.one (.ref 10 0))), (11, (.one (.rref 11 0 0))), (12, (.one (.ref 12 0)))] [(142, (.row 112 3 (d26.map encPart))), (12, (.var [(.own 142)])), (11, (.row 106 1 ((List.replicate 256 (0 : Int)).map encI))), (10, (.var [(.dat (I (leftOf a (partsOf a n ws))))]))]) (by kernel_rfl) ?_
            refine T_seq ?_
            refine T_reg [{}, { d := some (I ((d26.length : Nat) : Int)) }] [1, 9, 10, 11, 60, 61, 62] [12] (mk 89 [(1, (dt (.sl 1 (ws.map encI)))), (9, (dt (I 1))), (10, (.one (.ref 10 0))), (11, (.one (.rref 11 0 0))), (60, (.one (.own 142))), (61, (dt (I ((d26.length : Nat) : Int)))), (62, (dt (I 0)))] [(142, (.row 112 3 (d26.map encPart))), (11, (.row 106 1 ((List.replicate 256 (0 : Int)).map encI))), (10, (.var [(.dat (I (leftOf a (partsOf a n ws))))]))]) (True ∧ True ∧ True ∧ (True ∧ D.int .i64 ((d26.map encPart).length : Int) = (I ((d26.length : Nat) : Int))) ∧ True ∧ True ∧ True) (by kernel_rfl) ⟨trivial, trivial, trivial, ⟨trivial, by rw [List.length_map]⟩, trivial, trivial, trivial⟩ ?_
            refine T_block ?_
            refine T_turn [] [1, 9, 10, 11, 60, 61, 62] [] ((fun ((k, cs) : Nat × List Int) => (mk 89 [(1, (dt (.sl 1 (ws.map encI)))), (9, (dt (I 1))), (10, (.one (.ref 10 0))), (11, (.one (.rref 11 0 0))), (60, (.one (.own 142))), (61, (dt (I ((d26.length : Nat) : Int)))), (62, (dt (I ((k : Nat) : Int))))] [(142, (.row 112 3 (d26.map encPart))), (11, (.row 106 1 (cs.map encI))), (10, (.var [(.dat (I (leftOf a (partsOf a n ws))))]))])) (0, (List.replicate 256 (0 : Int)))) (by kernel_rfl) (T_loop (α := Nat × List Int) (fun ((k, cs) : Nat × List Int) => (mk 89 [(1, (dt (.sl 1 (ws.map encI)))), (9, (dt (I 1))), (10, (.one (.ref 10 0))), (11, (.one (.rref 11 0 0))), (60, (.one (.own 142))), (61, (dt (I ((d26.length : Nat) : Int)))), (62, (dt (I ((k : Nat) : Int))))] [(142, (.row 112 3 (d26.map encPart))), (11, (.row 106 1 (cs.map encI))), (10, (.var [(.dat (I (leftOf a (partsOf a n ws))))]))])) (fun ((k, cs) : Nat × List Int) => (k ≤ d26.length) ∧ (cs.length = 256) ∧ (Filled (leftOf a (partsOf a n ws)) d26 k cs) ∧ True) (fun ((k, cs) : Nat × List Int) => d26.length - k) (0, (List.replicate 256 (0 : Int))) ⟨Nat.zero_le _, List.length_replicate, fill_start _ _ _, trivial⟩ ?_)
            rintro ⟨k, cs⟩ ⟨ik, ic, iv2, _⟩
            refine T_reg [] [1, 9, 10, 11, 60, 61, 62, 63] [] (mk 89 [(1, (dt (.sl 1 (ws.map encI)))), (9, (dt (I 1))), (10, (.one (.ref 10 0))), (11, (.one (.rref 11 0 0))), (60, (.one (.own 142))), (61, (dt (I ((d26.length : Nat) : Int)))), (62, (dt (I ((k : Nat) : Int)))), (63, (dt (B (decide (((k : Nat) : Int) < ((d26.length : Nat) : Int))))))] [(142, (.row 112 3 (d26.map encPart))), (11, (.row 106 1 (cs.map encI))), (10, (.var [(.dat (I (leftOf a (partsOf a n ws))))]))]) (True ∧ True ∧ True) (by kernel_rfl) ⟨trivial, trivial, trivial⟩ ?_
            refine T_seq ?_
            refine T_cond (decide (((k : Nat) : Int) < ((d26.length : Nat) : Int))) (by kernel_rfl) (fun h29 => ?_) (fun h29 => ?_)
            · skip
              have g30 : ((k : Nat) : Int) < ((d26.length : Nat) : Int) := of_decide_eq_true (h29)
              refine T_skip ?_
              refine T_seq ?_
              refine T_block ?_
              have lt31 : k < (d26).length := by first | omega | (simp only [List.length_set, List.length_map, List.length_append, List.length_cons, List.length_nil] at *; omega)
              obtain ⟨x32, hx33⟩ : ∃ x, (d26)[k]? = some x := ⟨_, List.getElem?_eq_getElem lt31⟩
              have hbx := part_bounds2 ha ha2 (s := n) (by have := sumL_end iv (by omega); omega) hw hl (fun x hx => by have := le_sumL (fun y hy => (hw y hy).1) hx; have := sumL_end iv (by omega); omega) (hR27.1.mem_iff.1 (List.mem_of_getElem? hx33))
              have hpl3 := partsOf_length a n ws
              have hlf3 := leftOf_bounds ha ha2 (s := n) (by have := sumL_end iv (by omega); omega) hw hl (fun x hx => by have := le_sumL (fun y hy => (hw y hy).1) hx; have := sumL_end iv (by omega); omega) (List.prefix_refl _)
              refine T_reg [{}, {}, { d := some (.agg [(I x32.i), (I x32.c), (I x32.r)]) }] [1, 9, 10, 11, 14, 15, 60, 61, 62] [] (mk 89 [(1, (dt (.sl 1 (ws.map encI)))), (9, (dt (I 1))), (10, (.one (.ref 10 0))), (11, (.one (.rref 11 0 0))), (14, (dt (I ((k : Nat) : Int)))), (15, (.one (.ref 15 0))), (60, (.one (.own 142))), (61, (dt (I ((d26.length : Nat) : Int)))), (62, (dt (I ((k : Nat) : Int))))] [(15, (.var [(.dat (I x32.i)), (.dat (I x32.c)), (.dat (I x32.r))])), (142, (.row 112 3 (d26.map encPart))), (11, (.row 106 1 (cs.map encI))), (10, (.var [(.dat (I (leftOf a (partsOf a n ws))))]))]) (True ∧ True ∧ True ∧ (0 ≤ ((k : Nat) : Int) ∧ ((k : Nat) : Int) < (((d26.map encPart).length : Nat) : Int)) ∧ True ∧ ((d26.map encPart)[k]? = some (.agg [(I x32.i), (I x32.c), (I x32.r)])) ∧ True ∧ True ∧ True ∧ True ∧ True ∧ True ∧ True) (by kernel_rfl) ⟨trivial, trivial, trivial, ⟨by omega, by rw [List.length_map]; first | omega | (simp only [List.length_append, List.length_set, List.length_map, List.length_cons, List.length_nil] at *; omega)⟩, trivial, (by rw [List.getElem?_map, hx33]; rfl), trivial, trivial, trivial, trivial, trivial, trivial, trivial⟩ ?_
              have lt34 : (x32.i).toNat < (cs).length := by first | omega | (simp only [List.length_set, List.length_map, List.length_append, List.length_cons, List.length_nil] at *; omega)
              obtain ⟨x35, hx36⟩ : ∃ x, (cs)[(x32.i).toNat]? = some x := ⟨_, List.getElem?_eq_getElem lt34⟩
              refine T_reg [{}, {}, {}, {}, {}, { d := some (I x32.c) }, {}, { d := some (.tup [(I x35), (.sl 1 ((cs.set (x32.i).toNat x32.c).map encI))]) }] [1, 9, 10, 11, 14, 15, 60, 61, 62] [] (mk 89 [(1, (dt (.sl 1 (ws.map encI)))), (9, (dt (I 1))), (10, (.one (.ref 10 0))), (11, (.one (.rref 11 0 0))), (14, (dt (I ((k : Nat) : Int)))), (15, (.one (.ref 15 0))), (60, (.one (.own 142))), (61, (dt (I ((d26.length : Nat) : Int)))), (62, (dt (I ((k : Nat) : Int))))] [(15, (.var [(.dat (I x32.i)), (.dat (I x32.c)), (.dat (I x32.r))])), (142, (.row 112 3 (d26.map encPart))), (11, (.row 106 1 ((cs.set (x32.i).toNat x32.c).map encI))), (10, (.var [(.dat (I (leftOf a (partsOf a n ws))))]))]) (True ∧ True ∧ True ∧ True ∧ True ∧ True ∧ True ∧ True ∧ True ∧ True ∧ True ∧ (IntKind.i64.wrap (1 * x32.c) = x32.c) ∧ True ∧ (0 ≤ x32.i ∧ x32.i < ((256 : Nat) : Int)) ∧ True ∧ ((cs.map encI)[(x32.i).toNat]? = some (I x35) ∧ (cs.map encI).set (x32.i).toNat (I x32.c) = (cs.set (x32.i).toNat x32.c).map encI) ∧ True) (by kernel_rfl) ⟨trivial, trivial, trivial, trivial, trivial, trivial, trivial, trivial, trivial, trivial, trivial, (by rw [Int.one_mul]; exact (i64_wrap (by omega) (by omega))), trivial, ⟨by omega, by omega⟩, trivial, ⟨by rw [List.getElem?_map, hx36]; rfl, by simp only [List.map_set]; first | done | rfl⟩, trivial⟩ ?_
              refine T_reg [] [1, 9, 10, 11, 15, 60, 61, 62, 76] [] (mk 89 [(1, (dt (.sl 1 (ws.map encI)))), (9, (dt (I 1))), (10, (.one (.ref 10 0))), (11, (.one (.rref 11 0 0))), (15, (.one (.ref 15 0))), (60, (.one (.own 142))), (61, (dt (I ((d26.length : Nat) : Int)))), (62, (dt (I ((k : Nat) : Int)))), (76, (dt (B (decide (((k : Nat) : Int) < (leftOf a (partsOf a n ws)))))))] [(15, (.var [(.dat (I x32.i)), (.dat (I x32.c)), (.dat (I x32.r))])), (142, (.row 112 3 (d26.map encPart))), (11, (.row 106 1 ((cs.set (x32.i).toNat x32.c).map encI))), (10, (.var [(.dat (I (leftOf a (partsOf a n ws))))]))]) (True ∧ True ∧ True ∧ True ∧ True ∧ True ∧ True) (by kernel_rfl) ⟨trivial, trivial, trivial, trivial, trivial, trivial, trivial⟩ ?_
              refine T_cond (decide (((k : Nat) : Int) < (leftOf a (partsOf a n ws)))) (by kernel_rfl) (fun h37 => ?_) (fun h37 => ?_)
              · skip
                have g38 : ((k : Nat) : Int) < (leftOf a (partsOf a n ws)) := of_decide_eq_true (h37)
                have hs39 : ((cs.set (x32.i).toNat x32.c))[(x32.i).toNat]? = some x32.c := by rw [List.getElem?_set_self (by omega)]
                refine T_regE [{}, {}, {}, { d := some (I x32.c) }, {}, { d := some (I (x32.c + 1)) }, {}, { d := some (.tup [(I x32.c), (.sl 1 (((cs.set (x32.i).toNat x32.c).set (x32.i).toNat (x32.c + 1)).map encI))]) }] (mk 89 [(1, (dt (.sl 1 (ws.map encI)))), (9, (dt (I 1))), (10, (.one (.ref 10 0))), (11, (.one (.rref 11 0 0))), (15, (.one (.ref 15 0))), (60, (.one (.own 142))), (61, (dt (I ((d26.length : Nat) : Int)))), (62, (dt (I ((k : Nat) : Int)))), (76, (dt (B (decide (((k : Nat) : Int) < (leftOf a (partsOf a n ws))))))), (77, (.one (.ref 15 0))), (78, (dt (I x32.i))), (79, (.one (.rref 11 (x32.i).toNat 0))), (80, (dt (I x32.c))), (81, (dt (I 1))), (82, (dt (I (x32.c + 1)))), (83, (.one (.rref 11 (x32.i).toNat 0)))] [(15, (.var [(.dat (I x32.i)), (.dat (I x32.c)), (.dat (I x32.r))])), (142, (.row 112 3 (d26.map encPart))), (11, (.row 106 1 (((cs.set (x32.i).toNat x32.c).set (x32.i).toNat (x32.c + 1)).map encI))), (10, (.var [(.dat (I (leftOf a (partsOf a n ws))))]))]) (True ∧ True ∧ True ∧ True ∧ True ∧ (0 ≤ x32.i ∧ x32.i < ((256 : Nat) : Int)) ∧ True ∧ (((cs.set (x32.i).toNat x32.c).map encI)[(x32.i).toNat]? = some (I x32.c)) ∧ True ∧ True ∧ True ∧ (IntKind.i64.wrap (x32.c + 1) = (x32.c + 1)) ∧ True ∧ (0 ≤ x32.i ∧ x32.i < ((256 : Nat) : Int)) ∧ True ∧ (((cs.set (x32.i).toNat x32.c).map encI)[(x32.i).toNat]? = some (I x32.c) ∧ ((cs.set (x32.i).toNat x32.c).map encI).set (x32.i).toNat (I (x32.c + 1)) = ((cs.set (x32.i).toNat x32.c).set (x32.i).toNat (x32.c + 1)).map encI) ∧ True) (by kernel_rfl) ⟨trivial, trivial, trivial, trivial, trivial, ⟨by omega, by omega⟩, trivial, (by rw [List.getElem?_map, hs39]; rfl), trivial, trivial, trivial, (i64_wrap (by omega) (by omega)), trivial, ⟨by omega, by omega⟩, trivial, ⟨by rw [List.getElem?_map, hs39]; rfl, by simp only [List.map_set]; first | done | rfl⟩, trivial⟩ ?_
                refine T_regE [{ d := some (I ((k + 1 : Nat) : Int)) }] (mk 89 [(1, (dt (.sl 1 (ws.map encI)))), (9, (dt (I 1))), (10, (.one (.ref 10 0))), (11, (.one (.rref 11 0 0))), (15, (.one (.ref 15 0))), (60, (.one (.own 142))), (61, (dt (I ((d26.length : Nat) : Int)))), (62, (dt (I ((k + 1 : Nat) : Int)))), (76, (dt (B (decide (((k : Nat) : Int) < (leftOf a (partsOf a n ws))))))), (77, (.one (.ref 15 0))), (78, (dt (I x32.i))), (79, (.one (.rref 11 (x32.i).toNat 0))), (80, (dt (I x32.c))), (81, (dt (I 1))), (82, (dt (I (x32.c + 1)))), (83, (.one (.rref 11 (x32.i).toNat 0))), (84, (dt (I ((k + 1 : Nat) : Int))))] [(15, (.var [(.dat (I x32.i)), (.dat (I x32.c)), (.dat (I x32.r))])), (142, (.row 112 3 (d26.map encPart))), (11, (.row 106 1 (((cs.set (x32.i).toNat x32.c).set (x32.i).toNat (x32.c + 1)).map encI))), (10, (.var [(.dat (I (leftOf a (partsOf a n ws))))]))]) (True ∧ (IntKind.i64.wrap (((k : Nat) : Int) + 1) = ((k + 1 : Nat) : Int)) ∧ True ∧ True ∧ True) (by kernel_rfl) ⟨trivial, (by rw [i64_wrap (by omega) (by omega)]; omega), trivial, trivial, trivial⟩ ?_
                refine Exists.intro (k + 1, ((cs.set (x32.i).toNat x32.c).set (x32.i).toNat (x32.c + 1))) ⟨⟨by omega, by simp only [List.length_set]; exact ic, by first | exact fill_more iv2 hR27 hx33 ic hl (by omega) | exact fill_less iv2 hR27 hx33 ic hl (by omega), trivial⟩, by first | omega | (dsimp only; omega), le_turn [] [1, 9, 10, 11, 60, 61, 62] [15] (by kernel_rfl)⟩
              · skip
                have g40 : ¬ (((k : Nat) : Int) < (leftOf a (partsOf a n ws))) := of_decide_eq_false (h37)
                refine T_skip ?_
                refine T_regE [{ d := some (I ((k + 1 : Nat) : Int)) }] (mk 89 [(1, (dt (.sl 1 (ws.map encI)))), (9, (dt (I 1))), (10, (.one (.ref 10 0))), (11, (.one (.rref 11 0 0))), (15, (.one (.ref 15 0))), (60, (.one (.own 142))), (61, (dt (I ((d26.length : Nat) : Int)))), (62, (dt (I ((k + 1 : Nat) : Int)))), (76, (dt (B (decide (((k : Nat) : Int) < (leftOf a (partsOf a n ws))))))), (84, (dt (I ((k + 1 : Nat) : Int))))] [(15, (.var [(.dat (I x32.i)), (.dat (I x32.c)), (.dat (I x32.r))])), (142, (.row 112 3 (d26.map encPart))), (11, (.row 106 1 ((cs.set (x32.i).toNat x32.c).map encI))), (10, (.var [(.dat (I (leftOf a (partsOf a n ws))))]))]) (True ∧ (IntKind.i64.wrap (((k : Nat) : Int) + 1) = ((k + 1 : Nat) : Int)) ∧ True ∧ True ∧ True) (by kernel_rfl) ⟨trivial, (by rw [i64_wrap (by omega) (by omega)]; omega), trivial, trivial, trivial⟩ ?_
                refine Exists.intro (k + 1, (cs.set (x32.i).toNat x32.c)) ⟨⟨by omega, by simp only [List.length_set]; exact ic, by first | exact fill_more iv2 hR27 hx33 ic hl (by omega) | exact fill_less iv2 hR27 hx33 ic hl (by omega), trivial⟩, by first | omega | (dsimp only; omega), le_turn [] [1, 9, 10, 11, 60, 61, 62] [15] (by kernel_rfl)⟩
            · skip
              have g41 : ¬ (((k : Nat) : Int) < ((d26.length : Nat) : Int)) := of_decide_eq_false (h29)
              refine T_exit ?_
              refine T_seq (T_parts ?_)
              refine TL_part 2 [{}, { d := some (I ((ws.length : Nat) : Int)) }] (mk 89 [(1, (dt (.sl 1 (ws.map encI)))), (9, (dt (I 1))), (10, (.one (.ref 10 0))), (11, (.one (.rref 11 0 0))), (60, (.one (.own 142))), (61, (dt (I ((d26.length : Nat) : Int)))), (62, (dt (I ((k : Nat) : Int)))), (63, (dt (B (decide (((k : Nat) : Int) < ((d26.length : Nat) : Int)))))), (85, (dt (.sl 1 (ws.map encI)))), (86, (dt (I ((ws.length : Nat) : Int))))] [(142, (.row 112 3 (d26.map encPart))), (11, (.row 106 1 (cs.map encI))), (10, (.var [(.dat (I (leftOf a (partsOf a n ws))))]))]) (True ∧ True ∧ True ∧ (True ∧ D.int .i64 ((ws.map encI).length : Int) = (I ((ws.length : Nat) : Int))) ∧ True) (by kernel_rfl) ⟨trivial, trivial, trivial, ⟨trivial, by rw [List.length_map]⟩, trivial⟩ rfl ?_
              refine TL_arrSlice 106 87 11 1 256 3 106 (cs.map encI) ((cs.take ws.length).map encI) _ _ (ws.length) rfl rfl rfl (by kernel_rfl) (by kernel_rfl) (by kernel_rfl) (by kernel_rfl) (by kernel_rfl) (by rw [List.length_map]; exact ic) (by decide) (by omega) (by rw [List.map_take]) ?_
              refine TL_turn [] [4, 5, 87, 88] [142, 10] (mk 89 [(87, (dt (.sl 1 ((cs.take ws.length).map encI))))] []) (by kernel_rfl) ?_
              refine TL_part 3 [{ d := some (.sl 1 ((cs.take ws.length).map encI)) }] (mk 89 [(4, (dt (.sl 1 ((cs.take ws.length).map encI)))), (5, (dt (I 0))), (87, (dt (.sl 1 ((cs.take ws.length).map encI)))), (88, (dt (.sl 1 ((cs.take ws.length).map encI))))] []) (True ∧ (Ret Tryz.prog 76 [(.sl 1 ((cs.take ws.length).map encI))] (.sl 1 ((cs.take ws.length).map encI))) ∧ True ∧ True ∧ True ∧ True ∧ True) (by kernel_rfl) ⟨trivial, (ret_cloneI _ (by simp only [List.length_take]; omega)), trivial, trivial, trivial, trivial, trivial⟩ rfl ?_
              refine TL_nilQ ?_
              refine T_turn [] [4, 5] [] (mk 89 [(4, (dt (.sl 1 ((cs.take ws.length).map encI)))), (5, (dt (I 0)))] []) (by kernel_rfl) ?_
              refine T_ret ?_
              exact ret_here [(dt (.sl 1 ((cs.take ws.length).map encI))), (dt (I 0))] (by kernel_rfl) ⟨(.inl (congrArg (fun l => D.sl 1 (l.map encI)) ((by rw [← sumL_end iv (by omega)]; exact filled_end iv2 (by assumption) ic hl (by omega)) : (cs.take ws.length) = (splitW a (sumL 0 ws) ws)))), (.inl rfl), trivial⟩

end Go.Proofs.YtoiiblkncbnlaaaGreat

/-
  The plain law of the reference's Split: choosing the greatest rest, again and again, follows the ranks. Conditions: those of each theorem.
-/
set_option linter.unusedVariables false
set_option linter.unusedSimpArgs false
namespace Go.Proofs.YtoiiblkncbnlaaaGreat
open Go.DL
theorem mul_low {a x : Int} (ha : 0 ≤ a) (ha2 : a ≤ 1125899906842624) (hx : 0 ≤ x ∧ x ≤ 1000) : 0 ≤ a * x ∧ a * x ≤ 1125899906842624000 :=
  ⟨Int.mul_nonneg ha hx.1, Int.le_trans (Int.mul_le_mul_of_nonneg_left hx.2 ha) (Int.mul_le_mul_of_nonneg_right ha2 (by decide))⟩
theorem div_low {m s : Int} (hm : 0 ≤ m) : s ≤ 0 ∨ (0 ≤ m.tdiv s ∧ m.tdiv s ≤ m) := by
  by_cases hs : 0 < s
  case neg => exact .inl (by omega)
  refine .inr ?_
  rw [Int.tdiv_eq_ediv_of_nonneg hm]
  exact ⟨Int.ediv_nonneg hm (Int.le_of_lt hs), Int.ediv_le_self s hm⟩
def outM (ps : List Part) (m : Nat) : List Int := ps.map fun p => p.c + if rank ps p < m then 1 else 0
def restM (ps : List Part) (m : Nat) : List Int := ps.map fun p => if rank ps p < m then -1 else p.r
def Best (r : List Int) (i b : Nat) : Prop := ∀ y, r[b]? = some y → ∀ j z, j < i → r[j]? = some z → z ≤ y ∧ (j < b → z < y)
theorem best_len {r : List Int} {i b n : Nat} (h : Best r i b) (hn : n ≤ i) : Best r n b := fun y hy j z hj hz => h y hy j z (by omega) hz
theorem best_start (r : List Int) : Best r 1 0 := by
  intro y hy j z hj hz
  obtain rfl : j = 0 := by omega
  rw [hy] at hz; cases hz
  exact ⟨Int.le_refl _, fun h => absurd h (Nat.lt_irrefl _)⟩
theorem best_more {r : List Int} {i b : Nat} {x y : Int} (h : Best r i b) (hx : r[i]? = some x) (hy : r[b]? = some y) (hb : b < i) (hxy : x > y) : Best r (i + 1) i := by
  intro y' hy' j z hj hz
  rw [hx] at hy'; cases hy'
  by_cases e : j = i
  · subst e; rw [hx] at hz; cases hz; exact ⟨Int.le_refl _, fun h => absurd h (Nat.lt_irrefl _)⟩
  · have := (h y hy j z (by omega) hz).1
    exact ⟨by omega, fun _ => by omega⟩
theorem best_less {r : List Int} {i b : Nat} {x y : Int} (h : Best r i b) (hx : r[i]? = some x) (hy : r[b]? = some y) (hb : b < i) (hxy : ¬ x > y) : Best r (i + 1) b := by
  intro y' hy' j z hj hz
  rw [hy] at hy'; cases hy'
  by_cases e : j = i
  · subst e; rw [hx] at hz; cases hz; exact ⟨by omega, fun h => by omega⟩
  · exact h y hy j z (by omega) hz
theorem get_snoc {α : Type} {l : List α} {k : Nat} {q : α} (h : l.length = k) : (l ++ [q])[k]? = some q := by subst h; simp
theorem ahead_tot {p q : Part} (h : ahead p q = false) (h2 : p.i ≠ q.i) : ahead q p = true := by
  simp only [ahead, Bool.or_eq_false_iff, Bool.and_eq_false_iff, decide_eq_false_iff_not, Bool.or_eq_true, Bool.and_eq_true, decide_eq_true_eq] at h ⊢
  omega
/-- There is a sorted order. -/
theorem sorted_is (ps : List Part) : ∃ d, sortR ps d := by
  refine ⟨ps.mergeSort (fun p q => !ahead q p), List.mergeSort_perm _ _, ?_⟩
  have := List.pairwise_mergeSort (le := fun p q : Part => !ahead q p) (fun a b c h1 h2 => by
    simp only [Bool.not_eq_true', ahead, Bool.or_eq_false_iff, Bool.and_eq_false_iff, decide_eq_false_iff_not] at *; omega) (fun a b => by
    simp only [Bool.or_eq_true, Bool.not_eq_true', ahead, Bool.or_eq_false_iff, Bool.and_eq_false_iff, decide_eq_false_iff_not]; omega) ps
  exact this.imp fun h => by simpa using h
theorem part_get {a s : Int} {ws : List Int} {k : Nat} {x : Int} (h : ws[k]? = some x) : (partsOf a s ws)[k]? = some ⟨k, (a * x).tdiv s, (a * x).tmod s⟩ := by
  obtain ⟨hlt, he⟩ := List.getElem?_eq_some_iff.1 h
  rw [partsOf, List.getElem?_map, List.getElem?_range hlt, Option.map_some, partAt, List.getD, h]; rfl
theorem part_idx {a s : Int} {ws : List Int} {k : Nat} {p : Part} (h : (partsOf a s ws)[k]? = some p) : p.i = k := by
  rw [partsOf, List.getElem?_map, Option.map_eq_some_iff] at h
  obtain ⟨j, hj, rfl⟩ := h
  obtain ⟨hlt, he⟩ := List.getElem?_eq_some_iff.1 hj
  simp at he; subst he; rfl
/-- Σ of the rests. -/
theorem left_eq (a s : Int) (hs : s ≠ 0) : ∀ (l : List Int) (k : Nat) (L : Int) (ps : List Part), (∀ x ∈ l, 0 ≤ a * x) → 0 < s → ps = (l.zipIdx k).map (fun x => (⟨x.2, (a * x.1).tdiv s, (a * x.1).tmod s⟩ : Part)) →
    leftOf L ps * s = L * s - a * sumL 0 l + (ps.map (·.r)).foldr (· + ·) 0 := by
  intro l
  induction l with
  | nil => intro k L ps _ _ h; subst h; simp [leftOf, sumL]
  | cons x l ih =>
    intro k L ps hx hs0 h
    subst h
    have h1 := ih (k + 1) (L - (a * x).tdiv s) _ (fun y hy => hx y (by simp [hy])) hs0 rfl
    have e1 : sumL 0 (x :: l) = sumL 0 l + x := by simp only [sumL]; exact sumL_add l 0 x
    have e2 : leftOf L (((x :: l).zipIdx k).map fun x => (⟨x.2, (a * x.1).tdiv s, (a * x.1).tmod s⟩ : Part)) = leftOf (L - (a * x).tdiv s) ((l.zipIdx (k + 1)).map fun x => (⟨x.2, (a * x.1).tdiv s, (a * x.1).tmod s⟩ : Part)) := rfl
    rw [e2, h1, e1]
    simp only [List.zipIdx_cons, List.map_cons, List.foldr_cons]
    have h2 := Int.mul_tdiv_add_tmod (a * x) s
    rw [Int.sub_mul, Int.mul_add]
    have h3 : s * (a * x).tdiv s = (a * x).tdiv s * s := Int.mul_comm _ _
    omega
theorem partsOf_zip (a s : Int) (ws : List Int) : partsOf a s ws = (ws.zipIdx 0).map (fun x => (⟨x.2, (a * x.1).tdiv s, (a * x.1).tmod s⟩ : Part)) := by
  apply List.ext_getElem?
  intro k
  cases h : ws[k]? with
  | none =>
    have : ws.length ≤ k := List.getElem?_eq_none_iff.1 h
    rw [List.getElem?_eq_none (by rw [partsOf_length]; exact this), List.getElem?_eq_none (by simp; exact this)]
  | some x => rw [part_get h, List.getElem?_map, List.getElem?_zipIdx, h]; simp
/-- What is left is less than there are parts; and what it comes to. -/
theorem left_spec {a s : Int} {ws : List Int} (ha : 0 ≤ a) (hs : 0 < s) (hw : ∀ x ∈ ws, 0 ≤ x) (hss : s = sumL 0 ws) : leftOf a (partsOf a s ws) * s = ((partsOf a s ws).map (·.r)).foldr (· + ·) 0 := by
  have h := left_eq a s (by omega) ws 0 a (partsOf a s ws) (fun x hx => Int.mul_nonneg ha (hw x hx)) hs (partsOf_zip a s ws)
  rw [← hss] at h
  omega
theorem sum_rests {s : Int} : ∀ l : List Int, (∀ x ∈ l, 0 ≤ x ∧ x < s) → 0 ≤ l.foldr (· + ·) 0 ∧ l.foldr (· + ·) 0 ≤ (l.length : Int) * (s - 1)
  | [], _ => by simp
  | x :: l, h => by
    have h1 := sum_rests l fun y hy => h y (by simp [hy])
    have h2 := h x (by simp)
    simp only [List.foldr_cons, List.length_cons, Int.natCast_add, Int.natCast_one, Int.add_mul, Int.one_mul]
    omega
theorem rest_bounds {a s : Int} {ws : List Int} (ha : 0 ≤ a) (hs : 0 < s) (hw : ∀ x ∈ ws, 0 ≤ x) {p : Part} (hp : p ∈ partsOf a s ws) : 0 ≤ p.r ∧ p.r < s := by
  simp only [partsOf, List.mem_map, List.mem_range] at hp
  obtain ⟨k, hk, rfl⟩ := hp
  have h2 : 0 ≤ a * ws.getD k 0 := Int.mul_nonneg ha (hw _ (getD_mem hk))
  simp only [partAt]
  rw [Int.tmod_eq_emod_of_nonneg h2]
  exact ⟨Int.emod_nonneg _ (by omega), Int.emod_lt_of_pos _ hs⟩
theorem left_range {a s : Int} {ws : List Int} (ha : 0 ≤ a) (hs : 0 < s) (hw : ∀ x ∈ ws, 0 ≤ x) (hss : s = sumL 0 ws) : 0 ≤ leftOf a (partsOf a s ws) ∧ (0 < leftOf a (partsOf a s ws) → leftOf a (partsOf a s ws) < (ws.length : Int)) := by
  have h := left_spec ha hs hw hss
  have h1 := sum_rests (s := s) ((partsOf a s ws).map (·.r)) fun x hx => by
    obtain ⟨p, hp, rfl⟩ := List.mem_map.1 hx
    exact rest_bounds ha hs hw hp
  rw [List.length_map, partsOf_length] at h1
  generalize leftOf a (partsOf a s ws) = L at h
  rw [← h] at h1
  refine ⟨?_, fun hL => ?_⟩
  · apply Int.not_lt.1
    intro hn
    have : L * s < 0 := Int.mul_neg_of_neg_of_pos hn hs
    omega
  · apply Int.not_le.1
    intro hn
    have h3 : (ws.length : Int) * s ≤ L * s := Int.mul_le_mul_of_nonneg_right hn (Int.le_of_lt hs)
    have h4 : (ws.length : Int) * (s - 1) = (ws.length : Int) * s - ws.length := by rw [Int.mul_sub, Int.mul_one]
    have h5 : 0 < ws.length := by
      rcases Nat.eq_zero_or_pos ws.length with e | e
      · have := sumL_nil ws; omega
      · exact e
    omega
theorem rank_lt {ps : List Part} {d : List Part} (hR : sortR ps d) (hn : (d.map (·.i)).Nodup) {p q : Part} (hp : p ∈ ps) (hq : q ∈ ps) (h : ahead p q = true) : rank ps p < rank ps q := by
  obtain ⟨i, hi, rfl⟩ := List.mem_iff_getElem.1 (hR.1.mem_iff.2 hp)
  obtain ⟨j, hj, rfl⟩ := List.mem_iff_getElem.1 (hR.1.mem_iff.2 hq)
  rw [rank_at hR hn (List.getElem?_eq_getElem hi), rank_at hR hn (List.getElem?_eq_getElem hj)]
  have hpw := List.pairwise_iff_getElem.1 hR.2
  rcases Nat.lt_trichotomy i j with h1 | h1 | h1
  · exact h1
  · subst h1; simp [ahead] at h
  · have := hpw j i hj hi h1
    rw [this] at h; cases h
theorem pick_at {a s : Int} {ws : List Int} {m : Nat} (ha : 0 ≤ a) (hs : 0 < s) (hw : ∀ x ∈ ws, 0 ≤ x) (hss : s = sumL 0 ws) (hm : (m : Int) < leftOf a (partsOf a s ws)) {b : Nat} {p : Part} (hp : (partsOf a s ws)[b]? = some p)
    (hb : Best (restM (partsOf a s ws) m) ws.length b) : rank (partsOf a s ws) p = m := by
  obtain ⟨d, hR⟩ := sorted_is (partsOf a s ws)
  have hn := sorted_nodup hR
  have hlen : d.length = ws.length := by rw [hR.1.length_eq, partsOf_length]
  have hml : m < d.length := by have := (left_range ha hs hw hss).2 (by omega); omega
  have hxm : d[m] ∈ partsOf a s ws := hR.1.mem_iff.1 (List.getElem_mem hml)
  have hrx := rank_at hR hn (List.getElem?_eq_getElem hml)
  obtain ⟨i, hi, hie⟩ := List.mem_iff_getElem.1 hxm
  have hxi : (partsOf a s ws)[i]? = some d[m] := by rw [List.getElem?_eq_getElem hi, hie]
  generalize d[m] = x at *
  have hpm := List.mem_of_getElem? hp
  have hrb := rest_bounds ha hs hw hxm
  have hrp := rest_bounds ha hs hw hpm
  rw [partsOf_length] at hi
  have hy : (restM (partsOf a s ws) m)[b]? = some (if rank (partsOf a s ws) p < m then -1 else p.r) := by rw [restM, List.getElem?_map, hp]; rfl
  have hz : (restM (partsOf a s ws) m)[i]? = some x.r := by rw [restM, List.getElem?_map, hxi, Option.map_some, if_neg (by omega)]
  have hbb := hb _ hy i _ hi hz
  have h1 : ¬ rank (partsOf a s ws) p < m := fun h => by rw [if_pos h] at hbb; omega
  rw [if_neg h1] at hbb
  rcases Nat.lt_or_ge m (rank (partsOf a s ws) p) with h2 | h2
  · exfalso
    have hap : ahead p x = false := by
      cases hc : ahead p x with
      | false => rfl
      | true => have := rank_lt hR hn hpm hxm hc; omega
    have hne : p.i ≠ x.i := fun e => by
      have e1 := part_idx hp
      have e2 := part_idx hxi
      have : b = i := by omega
      subst this
      rw [hp] at hxi; cases hxi; omega
    have hax := ahead_tot hap hne
    simp only [ahead, Bool.or_eq_true, Bool.and_eq_true, decide_eq_true_eq] at hax
    have e1 := part_idx hp
    have e2 := part_idx hxi
    rcases hax with h3 | ⟨h3, h4⟩
    · omega
    · have := hbb.2 (by omega); omega
  · omega
theorem rank_one {a s : Int} {ws : List Int} {i j : Nat} {p q : Part} (hp : (partsOf a s ws)[i]? = some p) (hq : (partsOf a s ws)[j]? = some q) (h : rank (partsOf a s ws) p = rank (partsOf a s ws) q) : i = j := by
  obtain ⟨d, hR⟩ := sorted_is (partsOf a s ws)
  have hn := sorted_nodup hR
  obtain ⟨x, hx, e1⟩ := List.mem_iff_getElem.1 (hR.1.mem_iff.2 (List.mem_of_getElem? hp))
  obtain ⟨y, hy, e2⟩ := List.mem_iff_getElem.1 (hR.1.mem_iff.2 (List.mem_of_getElem? hq))
  subst e1 e2
  rw [rank_at hR hn (List.getElem?_eq_getElem hx), rank_at hR hn (List.getElem?_eq_getElem hy)] at h
  subst h
  have h1 := part_idx hp
  have h2 := part_idx hq
  omega
theorem pick_step {a s : Int} {ws : List Int} {m : Nat} (ha : 0 ≤ a) (hs : 0 < s) (hw : ∀ x ∈ ws, 0 ≤ x) (hss : s = sumL 0 ws) (hm : (m : Int) < leftOf a (partsOf a s ws)) {b : Nat} {x y : Int}
    (hb : Best (restM (partsOf a s ws) m) ws.length b) (hx : (outM (partsOf a s ws) m)[b]? = some x) (hy : (restM (partsOf a s ws) m)[b]? = some y) :
    (outM (partsOf a s ws) m).set b (x + 1) = outM (partsOf a s ws) (m + 1) ∧ (restM (partsOf a s ws) m).set b (-1) = restM (partsOf a s ws) (m + 1) := by
  obtain ⟨p, hp, hpx⟩ : ∃ p, (partsOf a s ws)[b]? = some p ∧ p.c + (if rank (partsOf a s ws) p < m then 1 else 0) = x := by
    rw [outM, List.getElem?_map, Option.map_eq_some_iff] at hx; exact hx
  have hr := pick_at ha hs hw hss hm hp hb
  have hbl := (List.getElem?_eq_some_iff.1 hp).1
  constructor
  · apply List.ext_getElem?
    intro j
    by_cases e : j = b
    · subst e
      rw [List.getElem?_set_self (by simpa [outM] using hbl), outM, List.getElem?_map, hp, Option.map_some, if_pos (by omega), ← hpx, if_neg (by omega), Int.add_zero]
    · rw [List.getElem?_set_ne (fun h => e h.symm), outM, outM, List.getElem?_map, List.getElem?_map]
      cases hq : (partsOf a s ws)[j]? with
      | none => rfl
      | some q =>
        have : rank (partsOf a s ws) q ≠ m := fun h => e (rank_one hq hp (by omega))
        by_cases h1 : rank (partsOf a s ws) q < m
        · rw [Option.map_some, Option.map_some, if_pos h1, if_pos (by omega)]
        · rw [Option.map_some, Option.map_some, if_neg h1, if_neg (by omega)]
  · apply List.ext_getElem?
    intro j
    by_cases e : j = b
    · subst e
      rw [List.getElem?_set_self (by simpa [restM] using hbl), restM, List.getElem?_map, hp, Option.map_some, if_pos (by omega)]
    · rw [List.getElem?_set_ne (fun h => e h.symm), restM, restM, List.getElem?_map, List.getElem?_map]
      cases hq : (partsOf a s ws)[j]? with
      | none => rfl
      | some q =>
        have : rank (partsOf a s ws) q ≠ m := fun h => e (rank_one hq hp (by omega))
        by_cases h1 : rank (partsOf a s ws) q < m
        · rw [Option.map_some, Option.map_some, if_pos h1, if_pos (by omega)]
        · rw [Option.map_some, Option.map_some, if_neg h1, if_neg (by omega)]
theorem outM_zero (ps : List Part) : ps.map (·.c) = outM ps 0 := by
  rw [outM]; exact List.map_congr_left fun p _ => by simp
theorem restM_zero (ps : List Part) : ps.map (·.r) = restM ps 0 := by
  rw [restM]; exact List.map_congr_left fun p _ => by simp
theorem outM_end {a s : Int} {ws : List Int} {m : Nat} (h : (m : Int) = leftOf a (partsOf a s ws)) : outM (partsOf a s ws) m = splitW a s ws := by
  rw [outM, splitW, ← h]
  exact List.map_congr_left fun p _ => by
    by_cases h1 : rank (partsOf a s ws) p < m
    · rw [if_pos h1, if_pos (by omega)]
    · rw [if_neg h1, if_neg (by omega)]
theorem outM_length (ps : List Part) (m : Nat) : (outM ps m).length = ps.length := by simp [outM]
theorem restM_length (ps : List Part) (m : Nat) : (restM ps m).length = ps.length := by simp [restM]
theorem out_bounds {ps : List Part} {m b : Nat} {x : Int} (h : ∀ p ∈ ps, 0 ≤ p.c ∧ p.c ≤ 1125899906842624) (hx : (outM ps m)[b]? = some x) : 0 ≤ x ∧ x ≤ 1125899906842625 := by
  rw [outM, List.getElem?_map, Option.map_eq_some_iff] at hx
  obtain ⟨p, hp, rfl⟩ := hx
  have := h p (List.mem_of_getElem? hp)
  split <;> omega
end Go.Proofs.YtoiiblkncbnlaaaGreat

/-
  Walks at the data level, printed by gen.py: what each Go function returns, for data that reads as said. Conditions: those of each theorem.
-/
namespace Go.Proofs.YtoiiblkncbnlaaaGreat
open Go.DL
set_option maxRecDepth 100000
set_option linter.unusedVariables false
set_option linter.unusedSimpArgs false
theorem ret_splitR (a : Int) (ws : List Int) (ha : 0 ≤ a) (ha2 : a ≤ 1125899906842624) (hw : ∀ x ∈ ws, 0 ≤ x ∧ x ≤ 1000) (hl : ws.length ≤ 256) (hs : 0 < sumL 0 ws) : Ret Tryz.prog 38 [(I a), (.sl 1 (ws.map encI))] (.tup [(.sl 1 ((splitW a (sumL 0 ws) ws).map encI)), (I 0)]) := by
  refine Ret.of_T Tryz.func38 (by kernel_rfl) rfl ?_
  refine T_turn [] [0, 1] [] (mk 146 [(0, (dt (I a))), (1, (dt (.sl 1 (ws.map encI))))] []) (by kernel_rfl) ?_
  refine T_reg [] [0, 1] [] (mk 146 [(0, (dt (I a))), (1, (dt (.sl 1 (ws.map encI))))] []) (True ∧ True ∧ True ∧ True ∧ True) (by kernel_rfl) ⟨trivial, trivial, trivial, trivial, trivial⟩ ?_
  refine T_seq ?_
  refine T_reg [{}, { d := some (I (chkM a)) }] [0, 1, 18] [] (mk 146 [(0, (dt (I a))), (1, (dt (.sl 1 (ws.map encI)))), (18, (dt (B ((chkM a) != 0))))] []) (True ∧ True ∧ True ∧ (Ret Tryz.prog 63 [(I a)] (I (chkM a))) ∧ True ∧ True ∧ True) (by kernel_rfl) ⟨trivial, trivial, trivial, (ret_chkMR _), trivial, trivial, trivial⟩ ?_
  refine T_cond ((chkM a) != 0) (by kernel_rfl) (fun h1 => ?_) (fun h1 => ?_)
  · skip
    have g2 : (chkM a) ≠ 0 := bne_iff_ne.1 (h1)
    exact (by exfalso; have := chkM_cases a; have h0 := sumL_nil ws; first | omega | (have := sumL_end iv (by omega); omega))
  · skip
    have g3 : (chkM a) = 0 := bne_f (h1)
    refine T_skip ?_
    refine T_reg [] [0, 1, 6] [] (mk 146 [(0, (dt (I a))), (1, (dt (.sl 1 (ws.map encI)))), (6, (dt (I 0)))] []) (True ∧ True ∧ True) (by kernel_rfl) ⟨trivial, trivial, trivial⟩ ?_
    refine T_seq ?_
    refine T_reg [] [0, 1, 6, 7] [] (mk 146 [(0, (dt (I a))), (1, (dt (.sl 1 (ws.map encI)))), (6, (dt (I 0))), (7, (dt (I 0)))] []) (True ∧ True ∧ True) (by kernel_rfl) ⟨trivial, trivial, trivial⟩ ?_
    refine T_block ?_
    refine T_turn [] [0, 1, 6, 7] [] ((fun ((k, n) : Nat × Int) => (mk 146 [(0, (dt (I a))), (1, (dt (.sl 1 (ws.map encI)))), (6, (dt (I n))), (7, (dt (I ((k : Nat) : Int))))] [])) (0, 0)) (by kernel_rfl) (T_loop (α := Nat × Int) (fun ((k, n) : Nat × Int) => (mk 146 [(0, (dt (I a))), (1, (dt (.sl 1 (ws.map encI)))), (6, (dt (I n))), (7, (dt (I ((k : Nat) : Int))))] [])) (fun ((k, n) : Nat × Int) => (k ≤ (ws).length) ∧ (sumL n (ws.drop k) = sumL 0 ws) ∧ (0 ≤ n ∧ n ≤ 1000 * (k : Int)) ∧ True) (fun ((k, n) : Nat × Int) => (ws).length - k) (0, 0) ⟨Nat.zero_le _, rfl, ⟨Int.le_refl _, by simp⟩, trivial⟩ ?_)
    rintro ⟨k, n⟩ ⟨ik, iv, ib, _⟩
    refine T_seq ?_
    refine T_reg [{}, {}, { d := some (I ((ws.length : Nat) : Int)) }] [0, 1, 6, 7, 22] [] (mk 146 [(0, (dt (I a))), (1, (dt (.sl 1 (ws.map encI)))), (6, (dt (I n))), (7, (dt (I ((k : Nat) : Int)))), (22, (dt (B (decide (((k : Nat) : Int) < ((ws.length : Nat) : Int))))))] []) (True ∧ True ∧ True ∧ True ∧ True ∧ (True ∧ D.int .i64 ((ws.map encI).length : Int) = (I ((ws.length : Nat) : Int))) ∧ True ∧ True ∧ True) (by kernel_rfl) ⟨trivial, trivial, trivial, trivial, trivial, ⟨trivial, by rw [List.length_map]⟩, trivial, trivial, trivial⟩ ?_
    refine T_cond (decide (((k : Nat) : Int) < ((ws.length : Nat) : Int))) (by kernel_rfl) (fun h4 => ?_) (fun h4 => ?_)
    · skip
      have g5 : ((k : Nat) : Int) < ((ws.length : Nat) : Int) := of_decide_eq_true (h4)
      refine T_skip ?_
      refine T_seq ?_
      refine T_block ?_
      refine T_seq ?_
      have lt6 : k < (ws).length := by first | omega | (simp only [List.length_set, List.length_map, List.length_append, List.length_cons, List.length_nil] at *; omega)
      obtain ⟨x7, hx8⟩ : ∃ x, (ws)[k]? = some x := ⟨_, List.getElem?_eq_getElem lt6⟩
      have hwx := hw _ (List.mem_of_getElem? hx8)
      have hml := mul_low ha ha2 hwx
      have hdl := div_low (s := n) hml.1
      rcases Bool.eq_false_or_eq_true (decide (x7 < 0)) with h9 | h9
      · skip
        have g10 : x7 < 0 := of_decide_eq_true (h9)
        exact (by exfalso; have := hw _ (List.mem_of_getElem? hx8); omega)
      · skip
        have g11 : ¬ (x7 < 0) := of_decide_eq_false (h9)
        refine T_reg [{}, {}, { d := some (I x7) }, {}, {}, {}, {}, {}, { d := some (I x7) }, {}, {}, { d := some (B false) }] [0, 1, 6, 7, 36] [] (mk 146 [(0, (dt (I a))), (1, (dt (.sl 1 (ws.map encI)))), (6, (dt (I n))), (7, (dt (I ((k : Nat) : Int)))), (36, (dt (B (decide (x7 > 1000)))))] []) (True ∧ True ∧ True ∧ True ∧ True ∧ (0 ≤ ((k : Nat) : Int) ∧ (ws.map encI)[k]? = some (I x7)) ∧ True ∧ True ∧ True ∧ True ∧ True ∧ True ∧ (((decide (x7 < 0)) == false) = true) ∧ True ∧ (((decide (x7 < 0)) == false) = true) ∧ True ∧ (((decide (x7 < 0)) == false) = true) ∧ (0 ≤ ((k : Nat) : Int) ∧ (ws.map encI)[k]? = some (I x7)) ∧ (((decide (x7 < 0)) == false) = true) ∧ True ∧ (((decide (x7 < 0)) == false) = true) ∧ True ∧ True ∧ ((decide (x7 < 0)) = false) ∧ True) (by kernel_rfl) ⟨trivial, trivial, trivial, trivial, trivial, ⟨by omega, by rw [List.getElem?_map, hx8]; rfl⟩, trivial, trivial, trivial, trivial, trivial, trivial, (by rw [show (decide (x7 < 0)) = false from h9]; rfl), trivial, (by rw [show (decide (x7 < 0)) = false from h9]; rfl), trivial, (by rw [show (decide (x7 < 0)) = false from h9]; rfl), ⟨by omega, by rw [List.getElem?_map, hx8]; rfl⟩, (by rw [show (decide (x7 < 0)) = false from h9]; rfl), trivial, (by rw [show (decide (x7 < 0)) = false from h9]; rfl), trivial, trivial, h9, trivial⟩ ?_
        refine T_cond (decide (x7 > 1000)) (by kernel_rfl) (fun h12 => ?_) (fun h12 => ?_)
        · skip
          have g13 : x7 > 1000 := of_decide_eq_true (h12)
          exact (by exfalso; have := hw _ (List.mem_of_getElem? hx8); omega)
        · skip
          have g14 : ¬ (x7 > 1000) := of_decide_eq_false (h12)
          refine T_skip ?_
          refine T_regE [{}, {}, {}, { d := some (I x7) }, {}, { d := some (I (n + x7)) }] (mk 146 [(0, (dt (I a))), (1, (dt (.sl 1 (ws.map encI)))), (6, (dt (I (n + x7)))), (7, (dt (I ((k : Nat) : Int)))), (36, (dt (B (decide (x7 > 1000))))), (37, (dt (I n))), (38, (dt (.sl 1 (ws.map encI)))), (39, (dt (I ((k : Nat) : Int)))), (40, (dt (.ptr [(I x7)]))), (41, (dt (I x7))), (42, (dt (I (n + x7))))] []) (True ∧ True ∧ True ∧ True ∧ True ∧ True ∧ True ∧ (0 ≤ ((k : Nat) : Int) ∧ (ws.map encI)[k]? = some (I x7)) ∧ True ∧ True ∧ True ∧ (IntKind.i64.wrap (n + x7) = (n + x7)) ∧ True ∧ True ∧ True) (by kernel_rfl) ⟨trivial, trivial, trivial, trivial, trivial, trivial, trivial, ⟨by omega, by rw [List.getElem?_map, hx8]; rfl⟩, trivial, trivial, trivial, (i64_wrap (by omega) (by omega)), trivial, trivial, trivial⟩ ?_
          refine T_regE [{}, { d := some (I ((k + 1 : Nat) : Int)) }] (mk 146 [(0, (dt (I a))), (1, (dt (.sl 1 (ws.map encI)))), (6, (dt (I (n + x7)))), (7, (dt (I ((k + 1 : Nat) : Int)))), (23, (dt (I ((k : Nat) : Int)))), (24, (dt (I ((k + 1 : Nat) : Int)))), (36, (dt (B (decide (x7 > 1000))))), (37, (dt (I n))), (38, (dt (.sl 1 (ws.map encI)))), (39, (dt (I ((k : Nat) : Int)))), (40, (dt (.ptr [(I x7)]))), (41, (dt (I x7))), (42, (dt (I (n + x7))))] []) (True ∧ True ∧ True ∧ (IntKind.i64.wrap (((k : Nat) : Int) + 1) = ((k + 1 : Nat) : Int)) ∧ True ∧ True ∧ True) (by kernel_rfl) ⟨trivial, trivial, trivial, (by rw [i64_wrap (by omega) (by omega)]; omega), trivial, trivial, trivial⟩ ?_
          refine Exists.intro (k + 1, (n + x7)) ⟨⟨by omega, by rw [← iv, drop_cons hx8]; rfl, by have := hw _ (List.mem_of_getElem? hx8); omega, trivial⟩, by first | omega | (dsimp only; omega), le_turn [] [0, 1, 6, 7] [] (by kernel_rfl)⟩
    · skip
      have g15 : ¬ (((k : Nat) : Int) < ((ws.length : Nat) : Int)) := of_decide_eq_false (h4)
      refine T_exit ?_
      refine T_seq ?_
      rcases Bool.eq_false_or_eq_true (decide (((ws.length : Nat) : Int) < 1)) with h16 | h16
      · skip
        have g17 : ((ws.length : Nat) : Int) < 1 := of_decide_eq_true (h16)
        exact (by exfalso; have := chkM_cases a; have h0 := sumL_nil ws; first | omega | (have := sumL_end iv (by omega); omega))
      · skip
        have g18 : ¬ (((ws.length : Nat) : Int) < 1) := of_decide_eq_false (h16)
        rcases Bool.eq_false_or_eq_true (decide (((ws.length : Nat) : Int) > 256)) with h19 | h19
        · skip
          have g20 : ((ws.length : Nat) : Int) > 256 := of_decide_eq_true (h19)
          exact (by exfalso; have := chkM_cases a; have h0 := sumL_nil ws; first | omega | (have := sumL_end iv (by omega); omega))
        · skip
          have g21 : ¬ (((ws.length : Nat) : Int) > 256) := of_decide_eq_false (h19)
          refine T_reg [{}, { d := some (I ((ws.length : Nat) : Int)) }, {}, {}, {}, { d := some (I ((ws.length : Nat) : Int)) }, {}, { d := some (B false) }, {}, {}, {}, { d := some (B false) }] [0, 1, 6, 54] [] (mk 146 [(0, (dt (I a))), (1, (dt (.sl 1 (ws.map encI)))), (6, (dt (I n))), (54, (dt (B (n == 0))))] []) (True ∧ True ∧ True ∧ (True ∧ D.int .i64 ((ws.map encI).length : Int) = (I ((ws.length : Nat) : Int))) ∧ True ∧ True ∧ True ∧ True ∧ (((decide (((ws.length : Nat) : Int) < 1)) == false) = true) ∧ True ∧ (((decide (((ws.length : Nat) : Int) < 1)) == false) = true) ∧ (True ∧ D.int .i64 ((ws.map encI).length : Int) = (I ((ws.length : Nat) : Int))) ∧ (((decide (((ws.length : Nat) : Int) < 1)) == false) = true) ∧ True ∧ True ∧ ((decide (((ws.length : Nat) : Int) < 1)) = false) ∧ True ∧ True ∧ (((decide (((ws.length : Nat) : Int) > 256)) == false) = true) ∧ True ∧ (((decide (((ws.length : Nat) : Int) > 256)) == false) = true) ∧ True ∧ True ∧ ((decide (((ws.length : Nat) : Int) > 256)) = false) ∧ True) (by kernel_rfl) ⟨trivial, trivial, trivial, ⟨trivial, by rw [List.length_map]⟩, trivial, trivial, trivial, trivial, (by rw [show (decide (((ws.length : Nat) : Int) < 1)) = false from h16]; rfl), trivial, (by rw [show (decide (((ws.length : Nat) : Int) < 1)) = false from h16]; rfl), ⟨trivial, by rw [List.length_map]⟩, (by rw [show (decide (((ws.length : Nat) : Int) < 1)) = false from h16]; rfl), trivial, trivial, h16, trivial, trivial, (by rw [show (decide (((ws.length : Nat) : Int) > 256)) = false from h19]; rfl), trivial, (by rw [show (decide (((ws.length : Nat) : Int) > 256)) = false from h19]; rfl), trivial, trivial, h19, trivial⟩ ?_
          refine T_cond (n == 0) (by kernel_rfl) (fun h22 => ?_) (fun h22 => ?_)
          · skip
            have g23 : n = 0 := eq_of_beq (h22)
            exact (by exfalso; have := chkM_cases a; have h0 := sumL_nil ws; first | omega | (have := sumL_end iv (by omega); omega))
          · skip
            have g24 : n ≠ 0 := ne_of_beq_false (h22)
            refine T_skip ?_
            have hws : ∀ x ∈ ws, x ≤ n := fun x hx => by have := le_sumL (fun y hy => (hw y hy).1) hx; have := sumL_end iv (by omega); omega
            refine T_reg [{}, {}, { d := some (I (-a)) }] [0, 1, 6, 8] [] (mk 146 [(0, (dt (I a))), (1, (dt (.sl 1 (ws.map encI)))), (6, (dt (I n))), (8, (dt (I (if (-a) > a then (-a) else a))))] []) (True ∧ True ∧ True ∧ True ∧ True ∧ (IntKind.i64.wrap (0 - a) = (-a)) ∧ True ∧ True ∧ True ∧ True ∧ True) (by kernel_rfl) ⟨trivial, trivial, trivial, trivial, trivial, (by rw [i64_wrap (by omega) (by omega)]; omega), trivial, trivial, trivial, trivial, trivial⟩ ?_
            refine T_turn [] [0, 1, 6, 8] [] (mk 146 [(0, (dt (I a))), (1, (dt (.sl 1 (ws.map encI)))), (6, (dt (I n))), (8, (dt (I a)))] []) (by rw [show (if (-a) > a then (-a) else a) = a from if_neg (by omega)]; kernel_rfl) ?_
            refine T_reg [] [0, 1, 6, 8, 9] [] (mk 146 [(0, (dt (I a))), (1, (dt (.sl 1 (ws.map encI)))), (6, (dt (I n))), (8, (dt (I a))), (9, (.one (.own 59)))] [(59, (.row 3 1 (([] : List Int).map encI)))]) (True ∧ (dfill (fun i => some (i * 1, 1)) (List.replicate (0 * 1) .junk) [] = some ((flat (([] : List Int).map encI)).map .dat)) ∧ True ∧ True ∧ True) (by kernel_rfl) ⟨trivial, rfl, trivial, trivial, trivial⟩ ?_
            refine T_reg [] [0, 1, 6, 8, 9, 10] [] (mk 146 [(0, (dt (I a))), (1, (dt (.sl 1 (ws.map encI)))), (6, (dt (I n))), (8, (dt (I a))), (9, (.one (.own 59))), (10, (.one (.own 60)))] [(60, (.row 3 1 (([] : List Int).map encI))), (59, (.row 3 1 (([] : List Int).map encI)))]) (True ∧ (dfill (fun i => some (i * 1, 1)) (List.replicate (0 * 1) .junk) [] = some ((flat (([] : List Int).map encI)).map .dat)) ∧ True ∧ True ∧ True) (by kernel_rfl) ⟨trivial, rfl, trivial, trivial, trivial⟩ ?_
            refine T_reg [] [0, 1, 6, 8, 9, 10, 11] [] (mk 146 [(0, (dt (I a))), (1, (dt (.sl 1 (ws.map encI)))), (6, (dt (I n))), (8, (dt (I a))), (9, (.one (.own 59))), (10, (.one (.own 60))), (11, (dt (I a)))] [(60, (.row 3 1 (([] : List Int).map encI))), (59, (.row 3 1 (([] : List Int).map encI)))]) (True ∧ True ∧ True ∧ True ∧ True) (by kernel_rfl) ⟨trivial, trivial, trivial, trivial, trivial⟩ ?_
            refine T_seq ?_
            refine T_ren 59 78 (mk 146 [(0, (dt (I a))), (1, (dt (.sl 1 (ws.map encI)))), (6, (dt (I n))), (8, (dt (I a))), (9, (.one (.own 78))), (10, (.one (.own 60))), (11, (dt (I a)))] [(60, (.row 3 1 (([] : List Int).map encI))), (78, (.row 3 1 (([] : List Int).map encI)))]) (by decide) (by decide) (by kernel_rfl) ?_
            refine T_ren 60 89 (mk 146 [(0, (dt (I a))), (1, (dt (.sl 1 (ws.map encI)))), (6, (dt (I n))), (8, (dt (I a))), (9, (.one (.own 78))), (10, (.one (.own 89))), (11, (dt (I a)))] [(89, (.row 3 1 (([] : List Int).map encI))), (78, (.row 3 1 (([] : List Int).map encI)))]) (by decide) (by decide) (by kernel_rfl) ?_
            refine T_reg [] [0, 1, 6, 8, 9, 10, 11, 12] [] (mk 146 [(0, (dt (I a))), (1, (dt (.sl 1 (ws.map encI)))), (6, (dt (I n))), (8, (dt (I a))), (9, (.one (.own 78))), (10, (.one (.own 89))), (11, (dt (I a))), (12, (dt (I 0)))] [(89, (.row 3 1 (([] : List Int).map encI))), (78, (.row 3 1 (([] : List Int).map encI)))]) (True ∧ True ∧ True) (by kernel_rfl) ⟨trivial, trivial, trivial⟩ ?_
            refine T_block ?_
            refine T_turn [] [0, 1, 6, 8, 9, 10, 11, 12] [] ((fun ((j, o, r, q) : Nat × List Int × List Int × Int) => (mk 146 [(0, (dt (I a))), (1, (dt (.sl 1 (ws.map encI)))), (6, (dt (I n))), (8, (dt (I a))), (9, (.one (.own 78))), (10, (.one (.own 89))), (11, (dt (I q))), (12, (dt (I ((j : Nat) : Int))))] [(89, (.row 3 1 (r.map encI))), (78, (.row 3 1 (o.map encI)))])) (0, ([] : List Int), ([] : List Int), a)) (by kernel_rfl) (T_loop (α := Nat × List Int × List Int × Int) (fun ((j, o, r, q) : Nat × List Int × List Int × Int) => (mk 146 [(0, (dt (I a))), (1, (dt (.sl 1 (ws.map encI)))), (6, (dt (I n))), (8, (dt (I a))), (9, (.one (.own 78))), (10, (.one (.own 89))), (11, (dt (I q))), (12, (dt (I ((j : Nat) : Int))))] [(89, (.row 3 1 (r.map encI))), (78, (.row 3 1 (o.map encI)))])) (fun ((j, o, r, q) : Nat × List Int × List Int × Int) => (j ≤ ws.length) ∧ (o = ((partsOf a n ws).take j).map (·.c)) ∧ (r = ((partsOf a n ws).take j).map (·.r)) ∧ (q = leftOf a ((partsOf a n ws).take j)) ∧ True) (fun ((j, o, r, q) : Nat × List Int × List Int × Int) => ws.length - j) (0, ([] : List Int), ([] : List Int), a) ⟨Nat.zero_le _, rfl, rfl, rfl, trivial⟩ ?_)
            rintro ⟨j, o, r, q⟩ ⟨ij, io, ir, iq, _⟩
            have hn0 : 0 < n := by have := sumL_end iv (by omega); omega
            have hol : o.length = j := by rw [io, List.length_map, List.length_take, partsOf_length]; omega
            have hrl : r.length = j := by rw [ir, List.length_map, List.length_take, partsOf_length]; omega
            have hlq := leftOf_bounds ha ha2 (s := n) (by have := sumL_end iv (by omega); omega) hw hl hws (List.take_prefix j _)
            refine T_seq ?_
            refine T_reg [{}, {}, { d := some (I ((ws.length : Nat) : Int)) }] [0, 1, 6, 8, 9, 10, 11, 12, 65] [] (mk 146 [(0, (dt (I a))), (1, (dt (.sl 1 (ws.map encI)))), (6, (dt (I n))), (8, (dt (I a))), (9, (.one (.own 78))), (10, (.one (.own 89))), (11, (dt (I q))), (12, (dt (I ((j : Nat) : Int)))), (65, (dt (B (decide (((j : Nat) : Int) < ((ws.length : Nat) : Int))))))] [(89, (.row 3 1 (r.map encI))), (78, (.row 3 1 (o.map encI)))]) (True ∧ True ∧ True ∧ True ∧ True ∧ (True ∧ D.int .i64 ((ws.map encI).length : Int) = (I ((ws.length : Nat) : Int))) ∧ True ∧ True ∧ True) (by kernel_rfl) ⟨trivial, trivial, trivial, trivial, trivial, ⟨trivial, by rw [List.length_map]⟩, trivial, trivial, trivial⟩ ?_
            refine T_cond (decide (((j : Nat) : Int) < ((ws.length : Nat) : Int))) (by kernel_rfl) (fun h25 => ?_) (fun h25 => ?_)
            · skip
              have g26 : ((j : Nat) : Int) < ((ws.length : Nat) : Int) := of_decide_eq_true (h25)
              refine T_skip ?_
              refine T_seq ?_
              refine T_block ?_
              have lt27 : j < (ws).length := by first | omega | (simp only [List.length_set, List.length_map, List.length_append, List.length_cons, List.length_nil] at *; omega)
              obtain ⟨x28, hx29⟩ : ∃ x, (ws)[j]? = some x := ⟨_, List.getElem?_eq_getElem lt27⟩
              have hwx := hw _ (List.mem_of_getElem? hx29)
              have hml := mul_low ha ha2 hwx
              have hdl := div_low (s := n) hml.1
              refine T_reg [{}, {}, {}, {}, { d := some (I x28) }, {}, { d := some (I (a * x28)) }, {}, { d := some (I ((a * x28).tdiv n)) }, {}, { d := some (.sl 1 ((o ++ [((a * x28).tdiv n)]).map encI)) }] [0, 1, 6, 8, 9, 10, 11, 12] [77] (mk 146 [(0, (dt (I a))), (1, (dt (.sl 1 (ws.map encI)))), (6, (dt (I n))), (8, (dt (I a))), (9, (.one (.own 78))), (10, (.one (.own 89))), (11, (dt (I q))), (12, (dt (I ((j : Nat) : Int))))] [(78, (.row 3 1 ((o ++ [((a * x28).tdiv n)]).map encI))), (89, (.row 3 1 (r.map encI)))]) (True ∧ True ∧ True ∧ True ∧ True ∧ True ∧ True ∧ True ∧ True ∧ (0 ≤ ((j : Nat) : Int) ∧ (ws.map encI)[j]? = some (I x28)) ∧ True ∧ True ∧ True ∧ (IntKind.i64.wrap (a * x28) = (a * x28)) ∧ True ∧ True ∧ True ∧ ((n : Int) ≠ 0 ∧ IntKind.i64.wrap ((a * x28).tdiv n) = ((a * x28).tdiv n)) ∧ True ∧ (dfill (fun i => some (i * 1, 1)) (List.replicate (1 * 1) .junk) [(0, [(.dat (I ((a * x28).tdiv n)))])] = some ((flat ([((a * x28).tdiv n)].map encI)).map .dat)) ∧ True ∧ (((o.map encI).length + ([((a * x28).tdiv n)].map encI).length) * 8 ≤ 140737488355328 ∧ cellsOne ([((a * x28).tdiv n)].map encI) ∧ (o.map encI) ++ [((a * x28).tdiv n)].map encI = (o ++ [((a * x28).tdiv n)]).map encI) ∧ True ∧ True ∧ True) (by kernel_rfl) ⟨trivial, trivial, trivial, trivial, trivial, trivial, trivial, trivial, trivial, ⟨by omega, by rw [List.getElem?_map, hx29]; rfl⟩, trivial, trivial, trivial, (i64_wrap (by omega) (by omega)), trivial, trivial, trivial, ⟨by omega, i64_wrap (by omega) (by omega)⟩, trivial, rfl, trivial, ⟨by simp only [List.length_map, List.length_nil, List.length_cons]; omega, encI_one _, by simp⟩, trivial, trivial, trivial⟩ ?_
              refine T_reg [{}, {}, {}, {}, { d := some (I x28) }, {}, { d := some (I (a * x28)) }, {}, { d := some (I ((a * x28).tmod n)) }, {}, { d := some (.sl 1 ((r ++ [((a * x28).tmod n)]).map encI)) }] [0, 1, 6, 8, 9, 10, 11, 12] [88] (mk 146 [(0, (dt (I a))), (1, (dt (.sl 1 (ws.map encI)))), (6, (dt (I n))), (8, (dt (I a))), (9, (.one (.own 78))), (10, (.one (.own 89))), (11, (dt (I q))), (12, (dt (I ((j : Nat) : Int))))] [(89, (.row 3 1 ((r ++ [((a * x28).tmod n)]).map encI))), (78, (.row 3 1 ((o ++ [((a * x28).tdiv n)]).map encI)))]) (True ∧ True ∧ True ∧ True ∧ True ∧ True ∧ True ∧ True ∧ True ∧ (0 ≤ ((j : Nat) : Int) ∧ (ws.map encI)[j]? = some (I x28)) ∧ True ∧ True ∧ True ∧ (IntKind.i64.wrap (a * x28) = (a * x28)) ∧ True ∧ True ∧ True ∧ ((n : Int) ≠ 0 ∧ ((a * x28).tmod n) = ((a * x28).tmod n)) ∧ True ∧ (dfill (fun i => some (i * 1, 1)) (List.replicate (1 * 1) .junk) [(0, [(.dat (I ((a * x28).tmod n)))])] = some ((flat ([((a * x28).tmod n)].map encI)).map .dat)) ∧ True ∧ (((r.map encI).length + ([((a * x28).tmod n)].map encI).length) * 8 ≤ 140737488355328 ∧ cellsOne ([((a * x28).tmod n)].map encI) ∧ (r.map encI) ++ [((a * x28).tmod n)].map encI = (r ++ [((a * x28).tmod n)]).map encI) ∧ True ∧ True ∧ True) (by kernel_rfl) ⟨trivial, trivial, trivial, trivial, trivial, trivial, trivial, trivial, trivial, ⟨by omega, by rw [List.getElem?_map, hx29]; rfl⟩, trivial, trivial, trivial, (i64_wrap (by omega) (by omega)), trivial, trivial, trivial, ⟨by omega, rfl⟩, trivial, rfl, trivial, ⟨by simp only [List.length_map, List.length_nil, List.length_cons]; omega, encI_one _, by simp⟩, trivial, trivial, trivial⟩ ?_
              refine T_regE [{}, {}, {}, {}, { d := some (I ((a * x28).tdiv n)) }, { d := some (I (q - ((a * x28).tdiv n))) }] (mk 146 [(0, (dt (I a))), (1, (dt (.sl 1 (ws.map encI)))), (6, (dt (I n))), (8, (dt (I a))), (9, (.one (.own 78))), (10, (.one (.own 89))), (11, (dt (I (q - ((a * x28).tdiv n))))), (12, (dt (I ((j : Nat) : Int)))), (90, (dt (I q))), (91, (.one (.own 78))), (92, (dt (I ((j : Nat) : Int)))), (93, (.one (.rref 78 j 0))), (94, (dt (I ((a * x28).tdiv n)))), (95, (dt (I (q - ((a * x28).tdiv n)))))] [(89, (.row 3 1 ((r ++ [((a * x28).tmod n)]).map encI))), (78, (.row 3 1 ((o ++ [((a * x28).tdiv n)]).map encI)))]) (True ∧ True ∧ True ∧ True ∧ True ∧ True ∧ True ∧ (0 ≤ ((j : Nat) : Int) ∧ ((j : Nat) : Int) < ((((o ++ [((a * x28).tdiv n)]).map encI).length : Nat) : Int)) ∧ True ∧ (((o ++ [((a * x28).tdiv n)]).map encI)[j]? = some (I ((a * x28).tdiv n))) ∧ True ∧ (IntKind.i64.wrap (q - ((a * x28).tdiv n)) = (q - ((a * x28).tdiv n))) ∧ True ∧ True ∧ True) (by kernel_rfl) ⟨trivial, trivial, trivial, trivial, trivial, trivial, trivial, ⟨by omega, by rw [List.length_map]; first | omega | (simp only [List.length_append, List.length_set, List.length_map, List.length_cons, List.length_nil] at *; omega)⟩, trivial, (by rw [List.getElem?_map, (get_snoc hol)]; rfl), trivial, (i64_wrap (by omega) (by omega)), trivial, trivial, trivial⟩ ?_
              refine T_regE [{}, { d := some (I ((j + 1 : Nat) : Int)) }] (mk 146 [(0, (dt (I a))), (1, (dt (.sl 1 (ws.map encI)))), (6, (dt (I n))), (8, (dt (I a))), (9, (.one (.own 78))), (10, (.one (.own 89))), (11, (dt (I (q - ((a * x28).tdiv n))))), (12, (dt (I ((j + 1 : Nat) : Int)))), (66, (dt (I ((j : Nat) : Int)))), (67, (dt (I ((j + 1 : Nat) : Int)))), (90, (dt (I q))), (91, (.one (.own 78))), (92, (dt (I ((j : Nat) : Int)))), (93, (.one (.rref 78 j 0))), (94, (dt (I ((a * x28).tdiv n)))), (95, (dt (I (q - ((a * x28).tdiv n)))))] [(89, (.row 3 1 ((r ++ [((a * x28).tmod n)]).map encI))), (78, (.row 3 1 ((o ++ [((a * x28).tdiv n)]).map encI)))]) (True ∧ True ∧ True ∧ (IntKind.i64.wrap (((j : Nat) : Int) + 1) = ((j + 1 : Nat) : Int)) ∧ True ∧ True ∧ True) (by kernel_rfl) ⟨trivial, trivial, trivial, (by rw [i64_wrap (by omega) (by omega)]; omega), trivial, trivial, trivial⟩ ?_
              refine Exists.intro (j + 1, (o ++ [((a * x28).tdiv n)]), (r ++ [((a * x28).tmod n)]), (q - ((a * x28).tdiv n))) ⟨⟨by omega, by rw [io, take_snoc (part_get hx29), List.map_append]; rfl, by rw [ir, take_snoc (part_get hx29), List.map_append]; rfl, by rw [iq, take_snoc (part_get hx29), leftOf_snoc], trivial⟩, by first | omega | (dsimp only; omega), le_turn [] [0, 1, 6, 8, 9, 10, 11, 12] [] (by kernel_rfl)⟩
            · skip
              have g30 : ¬ (((j : Nat) : Int) < ((ws.length : Nat) : Int)) := of_decide_eq_false (h25)
              refine T_exit ?_
              refine T_seq ?_
              refine T_block ?_
              refine T_turn [] [0, 9, 10, 11] [] ((fun ((m, o2, r2, q2) : Nat × List Int × List Int × Int) => (mk 146 [(0, (dt (I a))), (9, (.one (.own 78))), (10, (.one (.own 89))), (11, (dt (I q2)))] [(89, (.row 3 1 (r2.map encI))), (78, (.row 3 1 (o2.map encI)))])) (0, o, r, q)) (by kernel_rfl) (T_loop (α := Nat × List Int × List Int × Int) (fun ((m, o2, r2, q2) : Nat × List Int × List Int × Int) => (mk 146 [(0, (dt (I a))), (9, (.one (.own 78))), (10, (.one (.own 89))), (11, (dt (I q2)))] [(89, (.row 3 1 (r2.map encI))), (78, (.row 3 1 (o2.map encI)))])) (fun ((m, o2, r2, q2) : Nat × List Int × List Int × Int) => ((m : Int) ≤ leftOf a (partsOf a n ws)) ∧ (o2 = outM (partsOf a n ws) m) ∧ (r2 = restM (partsOf a n ws) m) ∧ (q2 = leftOf a (partsOf a n ws) - (m : Int)) ∧ (q2 ≤ 1125899906842624) ∧ True) (fun ((m, o2, r2, q2) : Nat × List Int × List Int × Int) => q2.toNat) (0, o, r, q) ⟨(left_range ha (by have := sumL_end iv (by omega); omega) (fun y hy => (hw y hy).1) (sumL_end iv (by omega))).1, by rw [io, List.take_of_length_le (by rw [partsOf_length]; omega)]; exact outM_zero _, by rw [ir, List.take_of_length_le (by rw [partsOf_length]; omega)]; exact restM_zero _, by rw [iq, List.take_of_length_le (by rw [partsOf_length]; omega)]; simp, by have := leftOf_bounds ha ha2 (s := n) (by have := sumL_end iv (by omega); omega) hw hl hws (List.take_prefix j _); omega, trivial⟩ ?_)
              rintro ⟨m, o2, r2, q2⟩ ⟨im, io2, ir2, iq2, iq3, _⟩
              have hol2 : o2.length = ws.length := by rw [io2, outM_length, partsOf_length]
              have hrl2 : r2.length = ws.length := by rw [ir2, restM_length, partsOf_length]
              have hne := sumL_nil ws
              refine T_seq ?_
              refine T_reg [] [0, 9, 10, 11, 97] [] (mk 146 [(0, (dt (I a))), (9, (.one (.own 78))), (10, (.one (.own 89))), (11, (dt (I q2))), (97, (dt (B (decide (q2 > 0)))))] [(89, (.row 3 1 (r2.map encI))), (78, (.row 3 1 (o2.map encI)))]) (True ∧ True ∧ True ∧ True ∧ True) (by kernel_rfl) ⟨trivial, trivial, trivial, trivial, trivial⟩ ?_
              refine T_cond (decide (q2 > 0)) (by kernel_rfl) (fun h31 => ?_) (fun h31 => ?_)
              · skip
                have g32 : q2 > 0 := of_decide_eq_true (h31)
                refine T_skip ?_
                refine T_block ?_
                refine T_reg [] [0, 9, 10, 11, 13] [] (mk 146 [(0, (dt (I a))), (9, (.one (.own 78))), (10, (.one (.own 89))), (11, (dt (I q2))), (13, (dt (I 0)))] [(89, (.row 3 1 (r2.map encI))), (78, (.row 3 1 (o2.map encI)))]) (True ∧ True ∧ True) (by kernel_rfl) ⟨trivial, trivial, trivial⟩ ?_
                refine T_seq ?_
                refine T_reg [] [0, 9, 10, 11, 13, 14] [] (mk 146 [(0, (dt (I a))), (9, (.one (.own 78))), (10, (.one (.own 89))), (11, (dt (I q2))), (13, (dt (I 0))), (14, (dt (I 1)))] [(89, (.row 3 1 (r2.map encI))), (78, (.row 3 1 (o2.map encI)))]) (True ∧ True ∧ True) (by kernel_rfl) ⟨trivial, trivial, trivial⟩ ?_
                refine T_block ?_
                refine T_turn [] [0, 9, 10, 11, 13, 14] [] ((fun ((i, b) : Nat × Nat) => (mk 146 [(0, (dt (I a))), (9, (.one (.own 78))), (10, (.one (.own 89))), (11, (dt (I q2))), (13, (dt (I ((b : Nat) : Int)))), (14, (dt (I ((i : Nat) : Int))))] [(89, (.row 3 1 (r2.map encI))), (78, (.row 3 1 (o2.map encI)))])) (1, 0)) (by kernel_rfl) (T_loop (α := Nat × Nat) (fun ((i, b) : Nat × Nat) => (mk 146 [(0, (dt (I a))), (9, (.one (.own 78))), (10, (.one (.own 89))), (11, (dt (I q2))), (13, (dt (I ((b : Nat) : Int)))), (14, (dt (I ((i : Nat) : Int))))] [(89, (.row 3 1 (r2.map encI))), (78, (.row 3 1 (o2.map encI)))])) (fun ((i, b) : Nat × Nat) => (i ≤ r2.length) ∧ (b < i) ∧ (Best r2 i b) ∧ True) (fun ((i, b) : Nat × Nat) => r2.length - i) (1, 0) ⟨by omega, Nat.zero_lt_one, best_start _, trivial⟩ ?_)
                rintro ⟨i, b⟩ ⟨ii, ibi, ibs, _⟩
                refine T_seq ?_
                refine T_reg [{}, {}, { d := some (I ((r2.length : Nat) : Int)) }] [0, 9, 10, 11, 13, 14, 101] [] (mk 146 [(0, (dt (I a))), (9, (.one (.own 78))), (10, (.one (.own 89))), (11, (dt (I q2))), (13, (dt (I ((b : Nat) : Int)))), (14, (dt (I ((i : Nat) : Int)))), (101, (dt (B (decide (((i : Nat) : Int) < ((r2.length : Nat) : Int))))))] [(89, (.row 3 1 (r2.map encI))), (78, (.row 3 1 (o2.map encI)))]) (True ∧ True ∧ True ∧ True ∧ True ∧ (True ∧ D.int .i64 ((r2.map encI).length : Int) = (I ((r2.length : Nat) : Int))) ∧ True ∧ True ∧ True) (by kernel_rfl) ⟨trivial, trivial, trivial, trivial, trivial, ⟨trivial, by rw [List.length_map]⟩, trivial, trivial, trivial⟩ ?_
                refine T_cond (decide (((i : Nat) : Int) < ((r2.length : Nat) : Int))) (by kernel_rfl) (fun h33 => ?_) (fun h33 => ?_)
                · skip
                  have g34 : ((i : Nat) : Int) < ((r2.length : Nat) : Int) := of_decide_eq_true (h33)
                  refine T_skip ?_
                  refine T_seq ?_
                  refine T_block ?_
                  have lt35 : i < (r2).length := by first | omega | (simp only [List.length_set, List.length_map, List.length_append, List.length_cons, List.length_nil] at *; omega)
                  obtain ⟨x36, hx37⟩ : ∃ x, (r2)[i]? = some x := ⟨_, List.getElem?_eq_getElem lt35⟩
                  have lt38 : b < (r2).length := by first | omega | (simp only [List.length_set, List.length_map, List.length_append, List.length_cons, List.length_nil] at *; omega)
                  obtain ⟨x39, hx40⟩ : ∃ x, (r2)[b]? = some x := ⟨_, List.getElem?_eq_getElem lt38⟩
                  refine T_regD 9 [{}, {}, {}, { d := some (I x36) }, {}, {}, {}, { d := some (I x39) }] [0, 9, 10, 11, 13, 14, 112] [] (mk 146 [(0, (dt (I a))), (9, (.one (.own 78))), (10, (.one (.own 89))), (11, (dt (I q2))), (13, (dt (I ((b : Nat) : Int)))), (14, (dt (I ((i : Nat) : Int)))), (112, (dt (B (decide (x36 > x39)))))] [(89, (.row 3 1 (r2.map encI))), (78, (.row 3 1 (o2.map encI)))]) ((True ∧ True ∧ True ∧ True ∧ True ∧ (0 ≤ ((i : Nat) : Int) ∧ ((i : Nat) : Int) < (((r2.map encI).length : Nat) : Int)) ∧ True ∧ ((r2.map encI)[i]? = some (I x36)) ∧ True ∧ True ∧ True ∧ True ∧ True ∧ (0 ≤ ((b : Nat) : Int) ∧ ((b : Nat) : Int) < (((r2.map encI).length : Nat) : Int)) ∧ True ∧ ((r2.map encI)[b]? = some (I x39)) ∧ True ∧ True ∧ True) ∧ True) (by kernel_rfl) (by kernel_rfl) (by kernel_rfl) ⟨⟨trivial, trivial, trivial, trivial, trivial, ⟨by omega, by rw [List.length_map]; first | omega | (simp only [List.length_append, List.length_set, List.length_map, List.length_cons, List.length_nil] at *; omega)⟩, trivial, (by rw [List.getElem?_map, hx37]; rfl), trivial, trivial, trivial, trivial, trivial, ⟨by omega, by rw [List.length_map]; first | omega | (simp only [List.length_append, List.length_set, List.length_map, List.length_cons, List.length_nil] at *; omega)⟩, trivial, (by rw [List.getElem?_map, hx40]; rfl), trivial, trivial, trivial⟩, trivial⟩ ?_
                  refine T_cond (decide (x36 > x39)) (by kernel_rfl) (fun h41 => ?_) (fun h41 => ?_)
                  · skip
                    have g42 : x36 > x39 := of_decide_eq_true (h41)
                    refine T_regE [] (mk 146 [(0, (dt (I a))), (9, (.one (.own 78))), (10, (.one (.own 89))), (11, (dt (I q2))), (13, (dt (I ((i : Nat) : Int)))), (14, (dt (I ((i : Nat) : Int)))), (112, (dt (B (decide (x36 > x39))))), (113, (dt (I ((i : Nat) : Int))))] [(89, (.row 3 1 (r2.map encI))), (78, (.row 3 1 (o2.map encI)))]) (True ∧ True ∧ True ∧ True ∧ True) (by kernel_rfl) ⟨trivial, trivial, trivial, trivial, trivial⟩ ?_
                    refine T_regE [{}, { d := some (I ((i + 1 : Nat) : Int)) }] (mk 146 [(0, (dt (I a))), (9, (.one (.own 78))), (10, (.one (.own 89))), (11, (dt (I q2))), (13, (dt (I ((i : Nat) : Int)))), (14, (dt (I ((i + 1 : Nat) : Int)))), (102, (dt (I ((i : Nat) : Int)))), (103, (dt (I ((i + 1 : Nat) : Int)))), (112, (dt (B (decide (x36 > x39))))), (113, (dt (I ((i : Nat) : Int))))] [(89, (.row 3 1 (r2.map encI))), (78, (.row 3 1 (o2.map encI)))]) (True ∧ True ∧ True ∧ (IntKind.i64.wrap (((i : Nat) : Int) + 1) = ((i + 1 : Nat) : Int)) ∧ True ∧ True ∧ True) (by kernel_rfl) ⟨trivial, trivial, trivial, (by rw [i64_wrap (by omega) (by omega)]; omega), trivial, trivial, trivial⟩ ?_
                    refine Exists.intro (i + 1, i) ⟨⟨by omega, by omega, best_more ibs hx37 hx40 ibi (by assumption), trivial⟩, by first | omega | (dsimp only; omega), le_turn [] [0, 9, 10, 11, 13, 14] [] (by kernel_rfl)⟩
                  · skip
                    have g43 : ¬ (x36 > x39) := of_decide_eq_false (h41)
                    refine T_skip ?_
                    refine T_regE [{}, { d := some (I ((i + 1 : Nat) : Int)) }] (mk 146 [(0, (dt (I a))), (9, (.one (.own 78))), (10, (.one (.own 89))), (11, (dt (I q2))), (13, (dt (I ((b : Nat) : Int)))), (14, (dt (I ((i + 1 : Nat) : Int)))), (102, (dt (I ((i : Nat) : Int)))), (103, (dt (I ((i + 1 : Nat) : Int)))), (112, (dt (B (decide (x36 > x39)))))] [(89, (.row 3 1 (r2.map encI))), (78, (.row 3 1 (o2.map encI)))]) (True ∧ True ∧ True ∧ (IntKind.i64.wrap (((i : Nat) : Int) + 1) = ((i + 1 : Nat) : Int)) ∧ True ∧ True ∧ True) (by kernel_rfl) ⟨trivial, trivial, trivial, (by rw [i64_wrap (by omega) (by omega)]; omega), trivial, trivial, trivial⟩ ?_
                    refine Exists.intro (i + 1, b) ⟨⟨by omega, by omega, best_less ibs hx37 hx40 ibi (by assumption), trivial⟩, by first | omega | (dsimp only; omega), le_turn [] [0, 9, 10, 11, 13, 14] [] (by kernel_rfl)⟩
                · skip
                  have g44 : ¬ (((i : Nat) : Int) < ((r2.length : Nat) : Int)) := of_decide_eq_false (h33)
                  refine T_exit ?_
                  have lt45 : b < (o2).length := by first | omega | (simp only [List.length_set, List.length_map, List.length_append, List.length_cons, List.length_nil] at *; omega)
                  obtain ⟨x46, hx47⟩ : ∃ x, (o2)[b]? = some x := ⟨_, List.getElem?_eq_getElem lt45⟩
                  have hbo := out_bounds (fun p hp => by have := part_bounds2 ha ha2 (s := n) (by have := sumL_end iv (by omega); omega) hw hl hws hp; omega) (show (outM (partsOf a n ws) m)[b]? = some x46 by rw [← io2]; exact hx47)
                  refine T_reg [{}, {}, {}, {}, {}, { d := some (I x46) }, { d := some (I (x46 + 1)) }, {}, { d := some (.tup [(I x46), (.sl 1 ((o2.set b (x46 + 1)).map encI))]) }] [0, 9, 10, 11, 13] [] (mk 146 [(0, (dt (I a))), (9, (.one (.own 78))), (10, (.one (.own 89))), (11, (dt (I q2))), (13, (dt (I ((b : Nat) : Int))))] [(89, (.row 3 1 (r2.map encI))), (78, (.row 3 1 ((o2.set b (x46 + 1)).map encI)))]) (True ∧ True ∧ True ∧ True ∧ True ∧ True ∧ True ∧ True ∧ True ∧ (0 ≤ ((b : Nat) : Int) ∧ ((b : Nat) : Int) < (((o2.map encI).length : Nat) : Int)) ∧ True ∧ ((o2.map encI)[b]? = some (I x46)) ∧ True ∧ (IntKind.i64.wrap (x46 + 1) = (x46 + 1)) ∧ True ∧ (0 ≤ ((b : Nat) : Int) ∧ ((b : Nat) : Int) < (((o2.map encI).length : Nat) : Int)) ∧ True ∧ ((o2.map encI)[b]? = some (I x46) ∧ (o2.map encI).set b (I (x46 + 1)) = (o2.set b (x46 + 1)).map encI) ∧ True) (by kernel_rfl) ⟨trivial, trivial, trivial, trivial, trivial, trivial, trivial, trivial, trivial, ⟨by omega, by rw [List.length_map]; first | omega | (simp only [List.length_append, List.length_set, List.length_map, List.length_cons, List.length_nil] at *; omega)⟩, trivial, (by rw [List.getElem?_map, hx47]; rfl), trivial, (i64_wrap (by omega) (by omega)), trivial, ⟨by omega, by rw [List.length_map]; first | omega | (simp only [List.length_append, List.length_set, List.length_map, List.length_cons, List.length_nil] at *; omega)⟩, trivial, ⟨by rw [List.getElem?_map, hx47]; rfl, by simp only [List.map_set]; first | done | rfl⟩, trivial⟩ ?_
                  have lt48 : b < (r2).length := by first | omega | (simp only [List.length_set, List.length_map, List.length_append, List.length_cons, List.length_nil] at *; omega)
                  obtain ⟨x49, hx50⟩ : ∃ x, (r2)[b]? = some x := ⟨_, List.getElem?_eq_getElem lt48⟩
                  refine T_reg [{}, {}, {}, { d := some (.tup [(I x49), (.sl 1 ((r2.set b (-1)).map encI))]) }] [0, 9, 10, 11] [] (mk 146 [(0, (dt (I a))), (9, (.one (.own 78))), (10, (.one (.own 89))), (11, (dt (I q2)))] [(89, (.row 3 1 ((r2.set b (-1)).map encI))), (78, (.row 3 1 ((o2.set b (x46 + 1)).map encI)))]) (True ∧ True ∧ True ∧ True ∧ True ∧ (0 ≤ ((b : Nat) : Int) ∧ ((b : Nat) : Int) < (((r2.map encI).length : Nat) : Int)) ∧ True ∧ ((r2.map encI)[b]? = some (I x49) ∧ (r2.map encI).set b (I (-1)) = (r2.set b (-1)).map encI) ∧ True) (by kernel_rfl) ⟨trivial, trivial, trivial, trivial, trivial, ⟨by omega, by rw [List.length_map]; first | omega | (simp only [List.length_append, List.length_set, List.length_map, List.length_cons, List.length_nil] at *; omega)⟩, trivial, ⟨by rw [List.getElem?_map, hx50]; rfl, by simp only [List.map_set]; first | done | rfl⟩, trivial⟩ ?_
                  refine T_regE [{}, { d := some (I (q2 - 1)) }] (mk 146 [(0, (dt (I a))), (9, (.one (.own 78))), (10, (.one (.own 89))), (11, (dt (I (q2 - 1)))), (125, (dt (I q2))), (126, (dt (I (q2 - 1))))] [(89, (.row 3 1 ((r2.set b (-1)).map encI))), (78, (.row 3 1 ((o2.set b (x46 + 1)).map encI)))]) (True ∧ True ∧ True ∧ (IntKind.i64.wrap (q2 - 1) = (q2 - 1)) ∧ True ∧ True ∧ True) (by kernel_rfl) ⟨trivial, trivial, trivial, (i64_wrap (by omega) (by omega)), trivial, trivial, trivial⟩ ?_
                  refine Exists.intro (m + 1, (o2.set b (x46 + 1)), (r2.set b (-1)), (q2 - 1)) ⟨⟨by omega, by rw [io2]; exact (pick_step (m := m) ha (by have := sumL_end iv (by omega); omega) (fun y hy => (hw y hy).1) (sumL_end iv (by omega)) (by omega) (by rw [← ir2]; exact best_len ibs (by omega)) (by rw [← io2]; exact hx47) (by rw [← ir2]; exact hx50)).1, by rw [ir2]; exact (pick_step (m := m) ha (by have := sumL_end iv (by omega); omega) (fun y hy => (hw y hy).1) (sumL_end iv (by omega)) (by omega) (by rw [← ir2]; exact best_len ibs (by omega)) (by rw [← io2]; exact hx47) (by rw [← ir2]; exact hx50)).2, by omega, by omega, trivial⟩, by first | omega | (dsimp only; omega), le_turn [] [0, 9, 10, 11] [] (by kernel_rfl)⟩
              · skip
                have g51 : ¬ (q2 > 0) := of_decide_eq_false (h31)
                refine T_exit ?_
                refine T_seq ?_
                refine T_reg [] [0, 9, 15] [89] (mk 146 [(0, (dt (I a))), (9, (.one (.own 78))), (15, (dt (I 0)))] [(78, (.row 3 1 (o2.map encI)))]) (True ∧ True ∧ True) (by kernel_rfl) ⟨trivial, trivial, trivial⟩ ?_
                refine T_block ?_
                refine T_turn [] [0, 9, 15] [] ((fun (t : Nat) => (mk 146 [(0, (dt (I a))), (9, (.one (.own 78))), (15, (dt (I ((t : Nat) : Int))))] [(78, (.row 3 1 (o2.map encI)))])) (0)) (by kernel_rfl) (T_loop (α := Nat) (fun (t : Nat) => (mk 146 [(0, (dt (I a))), (9, (.one (.own 78))), (15, (dt (I ((t : Nat) : Int))))] [(78, (.row 3 1 (o2.map encI)))])) (fun (t : Nat) => True) (fun (t : Nat) => 0) (0) trivial ?_)
                rintro t _
                refine T_seq ?_
                rcases Bool.eq_false_or_eq_true (decide (((t : Nat) : Int) < ((o2.length : Nat) : Int))) with h52 | h52
                · skip
                  have g53 : ((t : Nat) : Int) < ((o2.length : Nat) : Int) := of_decide_eq_true (h52)
                  refine T_reg [{}, {}, { d := some (I ((o2.length : Nat) : Int)) }, {}, {}, {}, {}, { d := some (B true) }] [0, 9, 15, 134] [] (mk 146 [(0, (dt (I a))), (9, (.one (.own 78))), (15, (dt (I ((t : Nat) : Int)))), (134, (dt (B (decide (a < 0)))))] [(78, (.row 3 1 (o2.map encI)))]) (True ∧ True ∧ True ∧ True ∧ True ∧ (True ∧ D.int .i64 ((o2.map encI).length : Int) = (I ((o2.length : Nat) : Int))) ∧ True ∧ True ∧ True ∧ True ∧ (((decide (((t : Nat) : Int) < ((o2.length : Nat) : Int))) == true) = true) ∧ True ∧ (((decide (((t : Nat) : Int) < ((o2.length : Nat) : Int))) == true) = true) ∧ True ∧ True ∧ ((decide (((t : Nat) : Int) < ((o2.length : Nat) : Int))) = true) ∧ True) (by kernel_rfl) ⟨trivial, trivial, trivial, trivial, trivial, ⟨trivial, by rw [List.length_map]⟩, trivial, trivial, trivial, trivial, (by rw [show (decide (((t : Nat) : Int) < ((o2.length : Nat) : Int))) = true from h52]; rfl), trivial, (by rw [show (decide (((t : Nat) : Int) < ((o2.length : Nat) : Int))) = true from h52]; rfl), trivial, trivial, h52, trivial⟩ ?_
                  refine T_cond (decide (a < 0)) (by kernel_rfl) (fun h54 => ?_) (fun h54 => ?_)
                  · skip
                    have g55 : a < 0 := of_decide_eq_true (h54)
                    exact (by exfalso; have := chkM_cases a; have h0 := sumL_nil ws; first | omega | (have := sumL_end iv (by omega); omega))
                  · skip
                    have g56 : ¬ (a < 0) := of_decide_eq_false (h54)
                    refine T_exit ?_
                    refine T_reg [] [4, 5] [] (mk 146 [(4, (.one (.own 78))), (5, (dt (I 0)))] [(78, (.row 3 1 (o2.map encI)))]) (True ∧ True ∧ True ∧ True ∧ True ∧ True ∧ True) (by kernel_rfl) ⟨trivial, trivial, trivial, trivial, trivial, trivial, trivial⟩ ?_
                    refine T_ret ?_
                    exact ret_here [(.one (.own 78)), (dt (I 0))] (by kernel_rfl) ⟨(by show D.sl 1 ((splitW a (sumL 0 ws) ws).map encI) = D.sl 1 (o2.map encI); exact congrArg (fun l => D.sl 1 (l.map encI)) ((by rw [io2, ← sumL_end iv (by omega)]; exact (outM_end (by omega)).symm) : (splitW a (sumL 0 ws) ws) = o2)), (.inl rfl), trivial⟩
                · skip
                  have g57 : ¬ (((t : Nat) : Int) < ((o2.length : Nat) : Int)) := of_decide_eq_false (h52)
                  refine T_reg [{}, {}, { d := some (I ((o2.length : Nat) : Int)) }, {}, {}, { g := false }, { g := false }, { d := some (B false) }] [0, 9, 15, 134] [] (mk 146 [(0, (dt (I a))), (9, (.one (.own 78))), (15, (dt (I ((t : Nat) : Int)))), (134, (dt (B false)))] [(78, (.row 3 1 (o2.map encI)))]) (True ∧ True ∧ True ∧ True ∧ True ∧ (True ∧ D.int .i64 ((o2.map encI).length : Int) = (I ((o2.length : Nat) : Int))) ∧ True ∧ True ∧ True ∧ True ∧ (((decide (((t : Nat) : Int) < ((o2.length : Nat) : Int))) == true) = false) ∧ (((decide (((t : Nat) : Int) < ((o2.length : Nat) : Int))) == true) = false) ∧ True ∧ ((decide (((t : Nat) : Int) < ((o2.length : Nat) : Int))) = false) ∧ True) (by kernel_rfl) ⟨trivial, trivial, trivial, trivial, trivial, ⟨trivial, by rw [List.length_map]⟩, trivial, trivial, trivial, trivial, (by rw [show (decide (((t : Nat) : Int) < ((o2.length : Nat) : Int))) = false from h52]; rfl), (by rw [show (decide (((t : Nat) : Int) < ((o2.length : Nat) : Int))) = false from h52]; rfl), trivial, h52, trivial⟩ ?_
                  refine T_cond false (by kernel_rfl) (fun h => absurd (h.symm.trans rfl) (by decide)) (fun _ => ?_)
                  refine T_exit ?_
                  refine T_reg [] [4, 5] [] (mk 146 [(4, (.one (.own 78))), (5, (dt (I 0)))] [(78, (.row 3 1 (o2.map encI)))]) (True ∧ True ∧ True ∧ True ∧ True ∧ True ∧ True) (by kernel_rfl) ⟨trivial, trivial, trivial, trivial, trivial, trivial, trivial⟩ ?_
                  refine T_ret ?_
                  exact ret_here [(.one (.own 78)), (dt (I 0))] (by kernel_rfl) ⟨(by show D.sl 1 ((splitW a (sumL 0 ws) ws).map encI) = D.sl 1 (o2.map encI); exact congrArg (fun l => D.sl 1 (l.map encI)) ((by rw [io2, ← sumL_end iv (by omega)]; exact (outM_end (by omega)).symm) : (splitW a (sumL 0 ws) ws) = o2)), (.inl rfl), trivial⟩

end Go.Proofs.YtoiiblkncbnlaaaGreat

/-
  The plain data of chapter 42 and what its checks compute. Conditions: those of each theorem.
-/
set_option linter.unusedVariables false
set_option linter.unusedSimpArgs false
namespace Go.Proofs.YtoiiblkncbnlaaaGreat
open Go.DL
structure Row where
  c : Int
  pl : Int
  wo : Int
  dr : Int
  lo : Int
  fo : Int
  ag : Int
  af : Int
  aw : Int
  ca : Int
  po : Int
  deriving DecidableEq
structure Place where
  k : Int
  b : Int
  z : List UInt8
  r : Row
  deriving DecidableEq
structure Tab where
  s : Int
  c : Int
  l : List Place
  deriving DecidableEq
structure Prize where
  f : Int
  t : Int
  a : Int
  deriving DecidableEq
structure Sch where
  c : Int
  p : List Prize
  u : Int
  d : Int
  ab : Int
  be : Int
  deriving DecidableEq
def Place.cs (p : Place) : List D := [I p.k, I p.b, .str p.z, I p.r.c, I p.r.pl, I p.r.wo, I p.r.dr, I p.r.lo, I p.r.fo, I p.r.ag, I p.r.af, I p.r.aw, I p.r.ca, I p.r.po]
def encPlace (p : Place) : D := .agg [I p.k, I p.b, .str p.z, I p.r.c, I p.r.pl, I p.r.wo, I p.r.dr, I p.r.lo, I p.r.fo, I p.r.ag, I p.r.af, I p.r.aw, I p.r.ca, I p.r.po]
def encPrize (p : Prize) : D := .agg [I p.f, I p.t, I p.a]
def encTab (t : Tab) : D := .agg [I t.s, I t.c, .sl 14 (t.l.map encPlace)]
def encSch (s : Sch) : D := .agg [I s.c, .sl 3 (s.p.map encPrize), I s.u, I s.d, I s.ab, I s.be]
theorem encPlace_one (l : List Place) : cellsOne (l.map encPlace) := by
  intro d hd c hc; obtain ⟨x, _, rfl⟩ := List.mem_map.1 hd; simp [encPlace, D.cells] at hc; rcases hc with rfl | rfl | rfl | rfl | rfl | rfl | rfl | rfl | rfl | rfl | rfl | rfl | rfl | rfl <;> rfl
/-! ## tables -/
def nums (r : Row) : List Int := [r.pl, r.wo, r.dr, r.lo, r.fo, r.ag, r.af, r.aw, r.ca]
def inR (n : Int) : Bool := decide (0 ≤ n ∧ n ≤ 9999)
def rowOK (r : Row) : Bool := (nums r).all inR && decide (0 ≤ r.c ∧ r.c ≤ 191 ∧ -99999 ≤ r.po ∧ r.po ≤ 99999)
def shapeOK (k : Nat) (q p : Place) : Prop := (k = 0 ∧ p.k = 1 ∧ p.b = 0) ∨ (0 < k ∧ p.k = q.k ∧ p.b = 0 ∧ q.r.c < p.r.c) ∨ (0 < k ∧ p.k ≠ q.k ∧ p.k = (k : Int) + 1 ∧ 1 ≤ p.b ∧ p.b ≤ 12)
instance (k : Nat) (q p : Place) : Decidable (shapeOK k q p) := by unfold shapeOK; infer_instance
def noPlace : Place := ⟨0, 0, [], ⟨0, 0, 0, 0, 0, 0, 0, 0, 0, 0, 0⟩⟩
def placeOK (k : Nat) (q : Place) (seen : List Int) (p : Place) : Prop := shapeOK k q p ∧ p.z.length ≤ 24 ∧ rowOK p.r = true ∧ p.r.c ∉ seen
instance (k : Nat) (q p : Place) (s : List Int) : Decidable (placeOK k q s p) := by unfold placeOK; infer_instance
def plOK (k : Nat) (q : Place) (seen : List Int) : List Place → Bool
  | [] => true
  | p :: l => if placeOK k q seen p then plOK (k + 1) p (seen ++ [p.r.c]) l else false
def clubOf (p : Place) : Int := p.r.c
def headT (t : Tab) : Prop := 0 ≤ t.s ∧ t.s ≤ 63 ∧ 0 ≤ t.c ∧ t.c ≤ 15 ∧ 2 ≤ t.l.length ∧ t.l.length ≤ 24
instance (t : Tab) : Decidable (headT t) := by unfold headT; infer_instance
def chkT (t : Tab) : Int := if headT t then (if plOK 0 noPlace [] t.l then 0 else 1) else 1
theorem plOK_stop {l : List Place} {k : Nat} {q x : Place} (h : plOK k q ((l.take k).map clubOf) (l.drop k) = plOK 0 noPlace [] l) (hx : l[k]? = some x) (hb : ¬ placeOK k q ((l.take k).map clubOf) x) : plOK 0 noPlace [] l = false := by
  rw [← h, drop_cons hx, plOK, if_neg hb]
theorem plOK_step {l : List Place} {k : Nat} {q x : Place} (h : plOK k q ((l.take k).map clubOf) (l.drop k) = plOK 0 noPlace [] l) (hx : l[k]? = some x) (hb : placeOK k q ((l.take k).map clubOf) x) : plOK (k + 1) x ((l.take (k + 1)).map clubOf) (l.drop (k + 1)) = plOK 0 noPlace [] l := by
  rw [← h, drop_cons hx, plOK, if_pos hb, take_snoc hx, List.map_append]; rfl
theorem plOK_end {l : List Place} {k : Nat} {q : Place} (h : plOK k q ((l.take k).map clubOf) (l.drop k) = plOK 0 noPlace [] l) (hk : l.length ≤ k) : plOK 0 noPlace [] l = true := by
  rw [← h, List.drop_eq_nil_of_le hk]; rfl
theorem chkT_bad {t : Tab} (h : ¬ headT t) : (1 : Int) = chkT t := by rw [chkT, if_neg h]
theorem chkT_bad2 {t : Tab} (h : plOK 0 noPlace [] t.l = false) : (1 : Int) = chkT t := by rw [chkT]; split <;> simp [h]
theorem chkT_ok {t : Tab} (h : headT t) (h2 : plOK 0 noPlace [] t.l = true) : (0 : Int) = chkT t := by rw [chkT, if_pos h, if_pos h2]
theorem chkT_cases (t : Tab) : chkT t = 1 ∨ (chkT t = 0 ∧ headT t ∧ plOK 0 noPlace [] t.l = true) := by
  unfold chkT; split
  · split
    · exact .inr ⟨rfl, by assumption, by assumption⟩
    · exact .inl rfl
  · exact .inl rfl
theorem all_stop {l : List Int} {k : Nat} {x : Int} (h : (l.drop k).all inR = l.all inR) (hx : l[k]? = some x) (hb : x < 0 ∨ 9999 < x) : l.all inR = false := by
  rw [← h, drop_cons hx, List.all_cons, show inR x = false from decide_eq_false (by omega), Bool.false_and]
theorem all_step {l : List Int} {k : Nat} {x : Int} (h : (l.drop k).all inR = l.all inR) (hx : l[k]? = some x) (hb : 0 ≤ x ∧ x ≤ 9999) : (l.drop (k + 1)).all inR = l.all inR := by
  rw [← h, drop_cons hx, List.all_cons, show inR x = true from decide_eq_true hb, Bool.true_and]
theorem all_end {l : List Int} {k : Nat} (h : (l.drop k).all inR = l.all inR) (hk : l.length ≤ k) : l.all inR = true := by
  rw [← h, List.drop_eq_nil_of_le hk]; rfl

/-! ## schemes -/
def prOK (last : Int) : List Prize → Bool
  | [] => true
  | p :: l => if p.f ≤ last ∨ p.t < p.f ∨ p.t > 24 ∨ p.a < 1 ∨ p.a > 1125899906842624 then false else prOK p.t l
def sumA (l : List Prize) : Int := sumL 0 (l.map (·.a))
def headS (s : Sch) : Prop := 0 ≤ s.c ∧ s.c ≤ 7 ∧ s.p.length ≤ 24 ∧ 0 ≤ s.u ∧ s.u ≤ 24 ∧ 0 ≤ s.d ∧ s.d ≤ 24
def tailS (s : Sch) : Prop := -1 ≤ s.ab ∧ s.ab ≤ 7 ∧ -1 ≤ s.be ∧ s.be ≤ 7 ∧ s.ab ≠ s.c ∧ s.be ≠ s.c ∧ (s.ab = s.be → s.ab = -1) ∧ (s.ab = -1 → s.u = 0) ∧ (s.be = -1 → s.d = 0)
instance (s : Sch) : Decidable (headS s) := by unfold headS; infer_instance
instance (s : Sch) : Decidable (tailS s) := by unfold tailS; infer_instance
def chkS (s : Sch) : Int := if headS s ∧ tailS s ∧ prOK 0 s.p = true ∧ sumA s.p ≤ 1125899906842624 then 0 else 420
theorem chkS_cases (s : Sch) : chkS s = 420 ∨ (chkS s = 0 ∧ headS s ∧ tailS s ∧ prOK 0 s.p = true ∧ sumA s.p ≤ 1125899906842624) := by
  unfold chkS; split
  · exact .inr ⟨rfl, by assumption⟩
  · exact .inl rfl
theorem prOK_stop {l : List Prize} {k : Nat} {x : Prize} {p : Int} (h : prOK p (l.drop k) = prOK 0 l) (hx : l[k]? = some x) (hb : x.f ≤ p ∨ x.t < x.f ∨ x.t > 24 ∨ x.a < 1 ∨ x.a > 1125899906842624) : prOK 0 l = false := by
  rw [← h, drop_cons hx, prOK, if_pos hb]
theorem prOK_step {l : List Prize} {k : Nat} {x : Prize} {p : Int} (h : prOK p (l.drop k) = prOK 0 l) (hx : l[k]? = some x) (hb : ¬ (x.f ≤ p ∨ x.t < x.f ∨ x.t > 24 ∨ x.a < 1 ∨ x.a > 1125899906842624)) : prOK x.t (l.drop (k + 1)) = prOK 0 l := by
  rw [← h, drop_cons hx, prOK, if_neg hb]
theorem prOK_end {l : List Prize} {k : Nat} {p : Int} (h : prOK p (l.drop k) = prOK 0 l) (hk : l.length ≤ k) : prOK 0 l = true := by
  rw [← h, List.drop_eq_nil_of_le hk]; rfl
theorem chkS_bad {s : Sch} (h : ¬ (headS s ∧ tailS s)) : (420 : Int) = chkS s := by rw [chkS, if_neg (fun g => h ⟨g.1, g.2.1⟩)]
theorem chkS_bad2 {s : Sch} (h : prOK 0 s.p = false) : (420 : Int) = chkS s := by rw [chkS, if_neg (fun g => by simp [h] at g)]
theorem sumA_step {l : List Prize} {k : Nat} {n : Int} {x : Prize} (h : sumL n ((l.drop k).map (·.a)) = sumA l) (hx : l[k]? = some x) : sumL (n + x.a) ((l.drop (k + 1)).map (·.a)) = sumA l := by
  rw [← h, drop_cons hx]; rfl
theorem sumA_end {l : List Prize} {k : Nat} {n : Int} (h : sumL n ((l.drop k).map (·.a)) = sumA l) (hk : l.length ≤ k) : n = sumA l := by
  rw [← h, List.drop_eq_nil_of_le hk]; rfl
/-- The error that Prizes and Moves have in common. -/
def fitS (t : Tab) (s : Sch) : Int := if chkT t ≠ 0 then chkT t else if chkS s ≠ 0 then chkS s else if t.c ≠ s.c then 420 else 0
theorem fitS_ok {t : Tab} {s : Sch} (h : fitS t s = 0) : chkT t = 0 ∧ chkS s = 0 ∧ t.c = s.c := by
  unfold fitS at h; split at h
  · omega
  · split at h
    · omega
    · split at h
      · omega
      · omega
end Go.Proofs.YtoiiblkncbnlaaaGreat

/-
  Chapter 42: equal parts, parts of ranks, groups of tied places. Conditions: those of each theorem.
-/
set_option linter.unusedVariables false
set_option linter.unusedSimpArgs false
namespace Go.Proofs.YtoiiblkncbnlaaaGreat
open Go.DL
def onesL (n : Nat) : List Int := List.replicate n 1
theorem sumL_ones (n : Nat) : sumL 0 (onesL n) = n := by
  induction n with
  | zero => rfl
  | succ n ih =>
    have e : sumL 0 (onesL (n + 1)) = sumL 0 (onesL n) + 1 := by
      simp only [onesL, List.replicate_succ, sumL]; exact sumL_add _ 0 1
    rw [e, ih]; omega
/-- An amount in equal parts. -/
def eqL (a : Int) (n : Nat) : List Int := splitW a (sumL 0 (onesL n)) (onesL n)
theorem eqL_length (a : Int) (n : Nat) : (eqL a n).length = n := by simp [eqL, splitW, partsOf, onesL]
theorem leftOf_const (l : List Part) (c : Int) (h : ∀ x ∈ l, x.c = c) : ∀ a : Int, leftOf a l = a - c * l.length := by
  induction l with
  | nil => intro a; simp [leftOf]
  | cons x l ih =>
    intro a
    have h1 := ih (fun y hy => h y (by simp [hy])) (a - x.c)
    have e : leftOf a (x :: l) = leftOf (a - x.c) l := rfl
    rw [e, h1, h x (by simp)]
    simp only [List.length_cons, Int.natCast_add, Int.natCast_one, Int.mul_add, Int.mul_one]
    omega
theorem countP_lt_range (k n : Nat) (h : k ≤ n) : (List.range n).countP (fun j => decide (j < k)) = k := by
  induction n with
  | zero => simp; omega
  | succ n ih =>
    rw [List.range_succ, List.countP_append]
    by_cases e : k = n + 1
    · subst e
      have : (List.range n).countP (fun j => decide (j < n + 1)) = (List.range n).length := List.countP_eq_length.2 fun j hj => by simp at hj; simp; omega
      rw [this]; simp
    · rw [ih (by omega)]
      have : ¬ n < k := by omega
      simp [this]
theorem eqL_parts {a : Int} (ha : 0 ≤ a) (n : Nat) : partsOf a (n : Int) (onesL n) = (List.range n).map fun k : Nat => (⟨(k : Int), a / n, a % n⟩ : Part) := by
  unfold partsOf
  rw [show (onesL n).length = n from List.length_replicate]
  refine List.map_congr_left fun k hk => ?_
  have hk := List.mem_range.1 hk
  have h1 : (onesL n).getD k 0 = 1 := by simp [onesL, List.getD, List.getElem?_replicate, hk]
  simp only [partAt, h1, Int.mul_one]
  rw [Int.tdiv_eq_ediv_of_nonneg ha, Int.tmod_eq_emod_of_nonneg ha]
theorem eqL_get {a : Int} {n j : Nat} (ha : 0 ≤ a) (hj : j < n) : (eqL a n)[j]? = some (a / n + if (j : Int) < a % n then 1 else 0) := by
  unfold eqL splitW
  rw [sumL_ones, eqL_parts ha n]
  simp only [List.map_map, List.getElem?_map, List.getElem?_range hj, Option.map_some, Function.comp_def]
  have hr : rank ((List.range n).map fun k : Nat => (⟨(k : Int), a / n, a % n⟩ : Part)) ⟨(j : Int), a / n, a % n⟩ = j := by
    unfold rank
    rw [List.countP_map]
    refine (List.countP_congr fun i _ => ?_).trans (countP_lt_range j n (by omega))
    simp [ahead, Function.comp_def]
  have hl : leftOf a ((List.range n).map fun k : Nat => (⟨(k : Int), a / n, a % n⟩ : Part)) = a % n := by
    rw [leftOf_const _ (a / n) (fun x hx => by obtain ⟨k, _, rfl⟩ := List.mem_map.1 hx; rfl)]
    rw [List.length_map, List.length_range]
    have := Int.mul_ediv_add_emod a n
    rw [Int.mul_comm]; omega
  rw [hr, hl]
theorem eqL_bounds {a : Int} {n : Nat} (ha : 0 ≤ a) {x : Int} (hx : x ∈ eqL a n) : 0 ≤ x ∧ x ≤ a := by
  obtain ⟨j, hj, e⟩ := List.mem_iff_getElem.1 hx
  rw [eqL_length] at hj
  have h1 := eqL_get ha hj
  rw [List.getElem?_eq_getElem (by rw [eqL_length]; exact hj), e] at h1
  have h1 := Option.some.inj h1
  have hn : (0 : Int) < n := by omega
  have h2 := Int.ediv_nonneg ha (Int.le_of_lt hn)
  have h3 := Int.emod_nonneg a (Int.ne_of_gt hn)
  have h4 := Int.mul_ediv_add_emod a n
  have h5 : (n : Int) * (a / n) ≥ 1 * (a / n) := Int.mul_le_mul_of_nonneg_right (by omega) h2
  split at h1 <;> omega

/-- The part of a rank. -/
def part (ps : List Prize) (r : Int) : Int :=
  match ps with
  | [] => 0
  | p :: l => if p.f ≤ r ∧ r ≤ p.t then (eqL p.a (p.t - p.f + 1).toNat).getD (r - p.f).toNat 0 else part l r
def partL (ps : List Prize) : List Int := (List.range 24).map fun i : Nat => part ps ((i : Int) + 1)
def putAt (l : List Int) (i : Nat) (xs : List Int) : List Int := l.take i ++ xs ++ l.drop (i + xs.length)
theorem putAt_nil (l : List Int) (i : Nat) : putAt l i [] = l := by simp [putAt]
theorem putAt_length {l : List Int} {i : Nat} {xs : List Int} (h : i + xs.length ≤ l.length) : (putAt l i xs).length = l.length := by
  simp only [putAt, List.length_append, List.length_take, List.length_drop]; omega
theorem putAt_snoc {l : List Int} {i : Nat} {xs : List Int} {x : Int} (h : i + xs.length < l.length) : (putAt l i xs).set (i + xs.length) x = putAt l i (xs ++ [x]) := by
  have e1 : l.drop (i + xs.length) = l[i + xs.length] :: l.drop (i + xs.length + 1) := List.drop_eq_getElem_cons h
  have e2 : (l.take i ++ xs).length = i + xs.length := by simp [List.length_take]; omega
  unfold putAt
  rw [e1, List.set_append, if_neg (by omega), e2, Nat.sub_self, List.set_cons_zero]
  simp [Nat.add_assoc]
theorem putAt_get (l : List Int) (i : Nat) (xs : List Int) (h : i + xs.length ≤ l.length) (j : Nat) : (putAt l i xs)[j]? = if i ≤ j ∧ j < i + xs.length then xs[j - i]? else l[j]? := by
  unfold putAt
  have e : (l.take i).length = i := by simp; omega
  by_cases h1 : j < i
  · rw [List.append_assoc, List.getElem?_append_left (by omega), if_neg (by omega), List.getElem?_take_of_lt h1]
  · by_cases h2 : j < i + xs.length
    · rw [List.append_assoc, List.getElem?_append_right (by omega), e, List.getElem?_append_left (by omega), if_pos (by omega)]
    · rw [List.getElem?_append_right (by simp only [List.length_append]; omega), if_neg (by omega), List.getElem?_drop]
      congr 1
      simp only [List.length_append]; omega
def fillL (ps : List Prize) (l : List Int) : List Int := ps.foldl (fun l p => putAt l p.f.toNat (eqL p.a (p.t - p.f + 1).toNat)) l
theorem prOK_mem {ps : List Prize} : ∀ {last : Int}, prOK last ps = true → ∀ p ∈ ps, last < p.f ∧ p.f ≤ p.t ∧ p.t ≤ 24 ∧ 1 ≤ p.a ∧ p.a ≤ 1125899906842624 := by
  induction ps with
  | nil => intro _ _ p hp; cases hp
  | cons q l ih =>
    intro last h p hp
    rw [prOK] at h
    split at h
    · cases h
    · rcases List.mem_cons.1 hp with rfl | hp
      · omega
      · have := ih h p hp; omega
theorem part_low {ps : List Prize} {last r : Int} (h : prOK last ps = true) (hr : r ≤ last) : part ps r = 0 := by
  induction ps generalizing last with
  | nil => rfl
  | cons q l ih =>
    have hm := prOK_mem h q (by simp)
    rw [prOK] at h
    split at h
    · cases h
    · rw [part, if_neg (by omega)]; exact ih h (by omega)
theorem fillL_get {ps : List Prize} : ∀ {last : Int} {l : List Int}, prOK last ps = true → 0 ≤ last → l.length = 25 → ∀ r : Nat, r < 25 → (fillL ps l)[r]? = if (r : Int) ≤ last ∨ part ps r = 0 ∧ ∀ p ∈ ps, ¬ (p.f ≤ (r : Int) ∧ (r : Int) ≤ p.t) then l[r]? else some (part ps r) := by
  induction ps with
  | nil => intro last l h h0 hl r hr; simp [fillL, part]
  | cons q ps ih =>
    intro last l h h0 hl r hr
    have hm := prOK_mem h q (by simp)
    rw [prOK] at h
    split at h
    · cases h
    · have hlen : (eqL q.a (q.t - q.f + 1).toNat).length = (q.t - q.f + 1).toNat := eqL_length _ _
      have hput : q.f.toNat + (eqL q.a (q.t - q.f + 1).toNat).length ≤ l.length := by rw [hlen]; omega
      have h1 := ih (last := q.t) (l := putAt l q.f.toNat (eqL q.a (q.t - q.f + 1).toNat)) h (by omega) (by rw [putAt_length hput]; exact hl) r hr
      rw [show fillL (q :: ps) l = fillL ps (putAt l q.f.toNat (eqL q.a (q.t - q.f + 1).toNat)) from rfl, h1, putAt_get _ _ _ hput]
      have hnone : (r : Int) ≤ q.t → ∀ p ∈ ps, ¬ (p.f ≤ (r : Int) ∧ (r : Int) ≤ p.t) := fun hrt p hp => by have := prOK_mem h p hp; omega
      by_cases hin : q.f ≤ (r : Int) ∧ (r : Int) ≤ q.t
      · rw [if_pos (.inl hin.2), if_pos (by rw [hlen]; omega), part, if_pos hin]
        rw [if_neg (by intro g; rcases g with g | ⟨_, g⟩
                       · omega
                       · exact g q (by simp) hin)]
        have e : ((r : Int) - q.f).toNat = r - q.f.toNat := by omega
        rw [List.getD, e, List.getElem?_eq_getElem (by rw [hlen]; omega)]; rfl
      · have hp0 : part (q :: ps) r = part ps r := by rw [part, if_neg hin]
        have h2 : ¬ (q.f.toNat ≤ r ∧ r < q.f.toNat + (eqL q.a (q.t - q.f + 1).toNat).length) := by rw [hlen]; omega
        rw [if_neg h2, hp0]
        by_cases hrl : (r : Int) ≤ q.t
        · rw [if_pos (.inl hrl)]
          have h3 : part ps r = 0 := part_low h hrl
          rw [if_pos]
          rcases Int.lt_or_le last r with h4 | h4
          · refine .inr ⟨h3, fun p hp => ?_⟩
            rcases List.mem_cons.1 hp with rfl | hp
            · exact hin
            · exact hnone hrl p hp
          · exact .inl h4
        · have h5 : (∀ p ∈ q :: ps, ¬ (p.f ≤ (r : Int) ∧ (r : Int) ≤ p.t)) ↔ (∀ p ∈ ps, ¬ (p.f ≤ (r : Int) ∧ (r : Int) ≤ p.t)) := by
            constructor
            · intro g p hp; exact g p (by simp [hp])
            · intro g p hp
              rcases List.mem_cons.1 hp with rfl | hp
              · exact hin
              · exact g p hp
          have h6 : ((r : Int) ≤ q.t) ↔ False := by constructor <;> intro g <;> first | omega | cases g
          have h7 : ((r : Int) ≤ last) ↔ False := by constructor <;> intro g <;> first | omega | cases g
          simp only [h5, h6, h7]
theorem part_none {ps : List Prize} {r : Int} (h : ∀ p ∈ ps, ¬ (p.f ≤ r ∧ r ≤ p.t)) : part ps r = 0 := by
  induction ps with
  | nil => rfl
  | cons q l ih => rw [part, if_neg (h q (by simp))]; exact ih fun p hp => h p (by simp [hp])
theorem fill_partL {ps : List Prize} (h : prOK 0 ps = true) : (fillL ps (List.replicate 25 0)).drop 1 = partL ps := by
  apply List.ext_getElem?
  intro i
  rw [List.getElem?_drop]
  by_cases hi : i < 24
  · rw [fillL_get h (Int.le_refl _) (by simp) (1 + i) (by omega)]
    have e2 : (partL ps)[i]? = some (part ps ((1 + i : Nat) : Int)) := by
      simp only [partL, List.getElem?_map, List.getElem?_range hi, Option.map_some]; congr 2; omega
    rw [e2]
    split
    · rename_i g
      rcases g with g | ⟨g, _⟩
      · omega
      · rw [g, List.getElem?_replicate, if_pos (by omega)]
    · rfl
  · have hl : ∀ (qs : List Prize) (l : List Int) (last : Int), prOK last qs = true → 0 ≤ last → l.length = 25 → (fillL qs l).length = 25 := by
      intro qs
      induction qs with
      | nil => intro l _ _ _ hl; exact hl
      | cons q qs ih =>
        intro l last hq h0 hl
        have hm := prOK_mem hq q (by simp)
        rw [prOK] at hq
        split at hq
        · cases hq
        · exact ih _ q.t hq (by omega) (by rw [putAt_length (by rw [eqL_length]; omega)]; exact hl)
    rw [List.getElem?_eq_none (by rw [hl _ _ 0 h (by omega) (by simp)]; omega), List.getElem?_eq_none (by simp [partL]; omega)]

/-! ## groups of tied places -/
def grpGo (g : List Place) (k : Int) : List Place → List (List Place)
  | [] => [g]
  | p :: l => if k = p.k then grpGo (g ++ [p]) k l else g :: grpGo [p] p.k l
def grp : List Place → List (List Place)
  | [] => []
  | p :: l => grpGo [p] p.k l
def runLen (k : Int) : List Place → Nat
  | [] => 0
  | p :: l => if k = p.k then runLen k l + 1 else 0
theorem runLen_le (k : Int) (l : List Place) : runLen k l ≤ l.length := by
  induction l with
  | nil => exact Nat.le_refl _
  | cons p l ih => rw [runLen]; split <;> simp <;> omega
theorem grpGo_eq (l : List Place) : ∀ (g : List Place) (k : Int), grpGo g k l = (g ++ l.take (runLen k l)) :: grp (l.drop (runLen k l)) := by
  induction l with
  | nil => intro g k; simp [grpGo, runLen, grp]
  | cons p l ih =>
    intro g k
    rw [grpGo, runLen]
    split
    · rw [ih]; simp
    · simp [grp]
theorem grp_cons {l : List Place} {x : Place} (h : l[0]? = some x) : grp l = l.take (runLen x.k l) :: grp (l.drop (runLen x.k l)) := by
  cases l with
  | nil => simp at h
  | cons p l =>
    simp at h; subst h
    rw [grp, grpGo_eq, runLen, if_pos rfl]; simp
def share : List Place → List Int → List Pay
  | p :: ps, n :: ns => if n > 0 then ⟨p.r.c, n⟩ :: share ps ns else share ps ns
  | _, _ => []
def payG (rest : List Int) : List (List Place) → List Pay
  | [] => []
  | g :: gs => share g (eqL (sumL 0 (rest.take g.length)) g.length) ++ payG (rest.drop g.length) gs
def payU (t : Tab) (s : Sch) : List Pay := payG (partL s.p) (grp t.l)
def insP (p : Pay) : List Pay → List Pay
  | [] => [p]
  | q :: l => if q.c < p.c then q :: insP p l else p :: q :: l
def insAll (l : List Pay) : List Pay := l.foldl (fun o p => insP p o) []
end Go.Proofs.YtoiiblkncbnlaaaGreat

/-
  Chapter 42: what the walks of the checks need. Conditions: those of each theorem.
-/
set_option linter.unusedVariables false
set_option linter.unusedSimpArgs false
namespace Go.Proofs.YtoiiblkncbnlaaaGreat
open Go.DL
theorem rowOK_of {r : Row} (h : (nums r).all inR = true) : rowOK r = decide (0 ≤ r.c ∧ r.c ≤ 191 ∧ -99999 ≤ r.po ∧ r.po ≤ 99999) := by rw [rowOK, h, Bool.true_and]
theorem rowOK_no {r : Row} (h : (nums r).all inR = false) : rowOK r = false := by rw [rowOK, h, Bool.false_and]
def Seen (m : List Int) (l : List Place) (k : Nat) : Prop := ∀ y, smem m y = ((l.take k).map clubOf).contains y
theorem seen_zero (l : List Place) : Seen [] l 0 := fun y => by simp [smem]
theorem seen_step {m : List Int} {l : List Place} {k : Nat} (h : Seen m l k) {x : Place} (hx : l[k]? = some x) : Seen (sput m x.r.c) l (k + 1) := by
  intro y
  rw [smem_sput, h y, take_snoc hx, List.map_append, List.contains_append]
  simp only [List.map_cons, List.map_nil, List.contains_cons, List.contains_nil, Bool.or_false, clubOf]
  rw [Bool.or_comm]
end Go.Proofs.YtoiiblkncbnlaaaGreat
namespace Go.Proofs.YtoiiblkncbnlaaaGreat
end Go.Proofs.YtoiiblkncbnlaaaGreat

/-
  Chapter 42: searching, inserting. Conditions: those of each theorem.
-/
set_option linter.unusedVariables false
set_option linter.unusedSimpArgs false
namespace Go.Proofs.YtoiiblkncbnlaaaGreat
open Go.DL
theorem onesL_succ (n : Nat) : onesL (n + 1) = onesL n ++ [1] := List.replicate_succ'
theorem onesL_length (n : Nat) : (onesL n).length = n := List.length_replicate
/-- Numbers in order, with another one. -/
def insI (n : Int) : List Int → List Int
  | [] => [n]
  | x :: l => if x < n then x :: insI n l else n :: x :: l
def idxT (c : Int) : List Tab → Nat → Int
  | [], _ => -1
  | x :: l, k => if x.c = c then (k : Int) else idxT c l (k + 1)
def idxS (c : Int) : List Sch → Nat → Int
  | [], _ => -1
  | x :: l, k => if x.c = c then (k : Int) else idxS c l (k + 1)
end Go.Proofs.YtoiiblkncbnlaaaGreat
namespace Go.Proofs.YtoiiblkncbnlaaaGreat
open Go.DL
theorem has_skip {l : List Int} {n x : Int} {k : Nat} (iv : (l.drop k).contains n = l.contains n) (hx : l[k]? = some x) (h : ¬ (x = n)) : (l.drop (k + 1)).contains n = l.contains n := by
  rw [← iv, drop_cons hx, List.contains_cons]
  have : (n == x) = false := by simpa using fun e => h e.symm
  rw [this, Bool.false_or]
theorem has_here {l : List Int} {n x : Int} {k : Nat} (iv : (l.drop k).contains n = l.contains n) (hx : l[k]? = some x) (h : x = n) : l.contains n = true := by
  rw [← iv, drop_cons hx, List.contains_cons]; simp [h]
theorem has_end {l : List Int} {n : Int} {k : Nat} (iv : (l.drop k).contains n = l.contains n) (h : l.length ≤ k) : l.contains n = false := by
  rw [← iv, List.drop_eq_nil_of_le h]; rfl
end Go.Proofs.YtoiiblkncbnlaaaGreat

/-
  Chapter 42: the library's sorts at payments and at numbers. Conditions: those of each theorem.
-/
set_option linter.unusedVariables false
set_option linter.unusedSimpArgs false
namespace Go.Proofs.YtoiiblkncbnlaaaGreat
open Go.DL Go.RowKit Go.Shelf Go.Sort
attribute [local go_sem] Oper.semAt_some
set_option maxRecDepth 100000
theorem zt3 : Tryz.prog.underlying 3 = some (TypeDesc.int IntKind.i64) := by kernel_rfl
instance : Inhabited Pay := ⟨⟨0, 0⟩⟩
def encKP (p : Pay) : List Value := [.int .i64 p.c, .int .i64 p.a]
def cfPay (x y : Pay) : Int := Lib.compareInt x.c y.c
set_option maxHeartbeats 4000000 in
theorem payCmp_calls (x y : Pay) (W : World) : Calls Tryz.prog 35 #[.agg #[.int .i64 x.c, .int .i64 x.a], .agg #[.int .i64 y.c, .int .i64 y.a]] W fun e w' => e = .returned (.int .i64 (cfPay x y)) ∧ ∃ q os', w' = grow (W.drewN q) os' := by
  have hcon := fun a b W' => AnyG.cmp_Compare_int Tryz.lcmp a b W'
  change ∀ a b W', Calls Tryz.prog 36 _ _ _ at hcon
  have u3 := run_underlying (P := Tryz.prog) zt3
  unfold cfPay
  generalize e1 : Lib.compareInt x.c y.c = r1
  go_enter Tryz.func35, Tryz.ntmps35
  go_wp2_with (go_at_call 36; refine (hcon _ _ _).mono ?_; rintro e w' ⟨rfl, rfl⟩)
  go_ret
  exact ⟨rfl, 0, _, by rw [alloc_eq_grow, alloc_eq_grow, grow_grow]; rfl⟩
theorem lt_pay (x y : Pay) : ltOf cfPay x y = decide (x.c < y.c) := by
  unfold ltOf cfPay Lib.compareInt
  by_cases h1 : x.c < y.c
  · simp [h1]
  · by_cases h2 : y.c < x.c <;> simp [h1, h2]
theorem swoPay : SWO (ltOf cfPay) where
  irrefl x := by rw [lt_pay]; simp
  trans x y z h1 h2 := by rw [lt_pay] at *; simp only [decide_eq_true_eq] at *; omega
  ntrans x y z h1 h2 := by rw [lt_pay] at *; simp only [decide_eq_false_iff_not] at *; omega
theorem flatKP_row (d : List Pay) : (flatK encKP 2 d.toArray).toList = rowV (d.map encPay) := by
  have hu : ∀ e ∈ d.map encPay, e.cells.length = 2 := fun e he => by obtain ⟨x, _, rfl⟩ := List.mem_map.1 he; rfl
  apply List.ext_getElem?
  intro t
  by_cases ht : t < d.length * 2
  · have hk : t / 2 < d.length := by omega
    have h1 : (d.map encPay)[t / 2]? = some (encPay d[t / 2]) := by rw [List.getElem?_map, List.getElem?_eq_getElem hk]; rfl
    have hsz : (flatK encKP 2 d.toArray).size = d.length * 2 := by simp
    have h2 : (flatK encKP 2 d.toArray).toList[t]? = some ((encKP d[t / 2])[t % 2]!) := by
      rw [Array.getElem?_toList, Array.getElem?_eq_getElem (by rw [hsz]; exact ht)]
      have := get_flatK encKP 2 d.toArray t (by simpa using ht)
      rw [getElem!_pos _ t (by rw [hsz]; exact ht)] at this
      rw [this, getElem!_pos d.toArray (t / 2) (by simpa using hk)]
      simp
    rw [h2, rowV, List.getElem?_map]
    have h3 : ∀ j c, (encPay d[t / 2]).cells[j]? = some c → (flat (d.map encPay))[t / 2 * 2 + j]? = some c := fun j c hj => flat_get (sz := 2) hu h1 hj
    have h4 : t = t / 2 * 2 + t % 2 := by omega
    clear h2 h1 hsz
    generalize d[t / 2] = q at h3 ⊢
    have h5 : t % 2 < 2 := Nat.mod_lt _ (by decide)
    generalize hm : t % 2 = m at h4 h5 ⊢
    rw [h4]
    match m, h5 with
    | 0, _ => rw [h3 0 _ rfl]; rfl
    | 1, _ => rw [h3 1 _ rfl]; rfl
  · rw [List.getElem?_eq_none (by simp; omega), List.getElem?_eq_none (by rw [rowV, List.length_map, flat_length _ hu, List.length_map]; omega)]
theorem cmpP_lays (blk off size : Nat) (w : World) : CmpLays Tryz.prog 35 #[] encKP 2 cfPay blk off size w := fun _ _ _ _ x y => payCmp_calls x y _
theorem take_putZ (cur F : Array Value) (h : F.size ≤ cur.size) : (putCells id 0 F cur).toList.take F.size = F.toList := by
  apply List.ext_getElem?
  intro j
  by_cases hj : j < F.size
  · rw [List.getElem?_take_of_lt hj, Array.getElem?_toList]
    simp [putCells, hj, show j < cur.size by omega]
  · rw [List.getElem?_take_eq_none (by omega), List.getElem?_eq_none (by simp; omega)]
/-- A list of payments, ordered by clubs. -/
def sortP (d d' : List Pay) : Prop := d'.Perm d ∧ d'.Pairwise fun p q => ¬ q.c < p.c
theorem sort_okP : SortOK Tryz.prog 34 35 56 2 encPay sortP := by
  refine ⟨⟨Tryz.f34, by kernel_rfl, by kernel_rfl, by kernel_rfl⟩, ?_⟩
  intro w blk cap cur d hne hlt hb hcap hmax hcs htk
  have hblk := (Array.getElem?_eq_some_iff.1 hb).1
  have hF : (flatK encKP 2 d.toArray).size = d.length * 2 := by simp
  have hcur : d.length * 2 ≤ cur.size := by rw [hcs]; exact Nat.mul_le_mul_right _ hcap
  have hH : HoldsK encKP 2 w blk 0 d.toArray := by
    intro j hj
    rw [hF] at hj
    refine ⟨?_, by simp [World.frozen?, hb]⟩
    have h1 : (cur.toList.take (d.length * 2))[j]? = (flatK encKP 2 d.toArray).toList[j]? := by rw [htk, flatKP_row]
    rw [List.getElem?_take_of_lt hj] at h1
    simp only [World.cell?, hb, Nat.zero_add, Option.isSome_none, Bool.false_eq_true, if_false]
    rw [← Array.getElem?_toList, h1, Array.getElem?_toList, Array.getElem?_eq_getElem (by rw [hF]; exact hj), getElem!_pos _ j (by rw [hF]; exact hj)]
    rfl
  have hcon := AnyQ.slices_SortFunc Tryz.lsortP 2 Tryz.isAgg56 Tryz.sizeOf56 encKP (fun _ => rfl) (fun x v hv => by simp [encKP] at hv; rcases hv with rfl | rfl <;> rfl) cfPay swoPay 35 #[] blk 0 cap d.toArray w
    (enters_of Tryz.func35 (by kernel_rfl) rfl) (cmpP_lays blk 0 _ w) hH hblk (by simpa using hlt)
  simp only [List.size_toArray] at hcon
  refine hcon.mono ?_
  rintro e w' ⟨rfl, d', n, os, hp, hs, rfl⟩
  have hsz : d'.size = d.length := by simpa using hp.1
  have hF' : (flatK encKP 2 d').size = d.length * 2 := by simp [hsz]
  refine ⟨rfl, d'.toList, putCells id 0 (flatK encKP 2 d') cur, ⟨?_, ?_⟩, by simpa using hsz, ⟨rfl, rfl, rfl, by simp [sortWorldK, putRowK], fun k hk hne' => ?_⟩, ?_, by simp [putCells], ?_⟩
  · have := hp.2.2
    rw [Array.extract_eq_self_of_le (by omega), Array.extract_eq_self_of_le (by simp)] at this
    simpa using this
  · rw [List.pairwise_iff_getElem]
    intro i j hi hj hij
    have := hs i j (Nat.zero_le _) hij (by simpa [hsz] using hj)
    rw [lt_pay, getElem!_pos d' j (by simpa using hj), getElem!_pos d' i (by simpa using hi)] at this
    simpa using this
  · unfold sortWorldK putRowK
    rw [heap_grow_old _ _ (by simpa using hk)]
    have : blk ≠ k := fun e => hne' (by rw [e])
    simp [putRow, mapBlock, Sort.ahead, Array.getElem?_modify, this]
  · unfold sortWorldK putRowK
    rw [heap_grow_old _ _ (by simpa using hblk)]
    simp [putRow, mapBlock, Sort.ahead, Array.getElem?_modify, hb, onCells]
  · have := take_putZ cur (flatK encKP 2 d') (by rw [hF']; exact hcur)
    rw [hF'] at this
    rw [this]
    have := flatKP_row d'.toList
    rwa [Array.toArray_toList] at this
theorem sort_okI : SortIOK Tryz.prog 64 3 := by
  refine ⟨⟨Tryz.f64, by kernel_rfl, by kernel_rfl, by kernel_rfl⟩, fun w p cap => AnyM.slices_Sort_int_none Tryz.lsortI p cap w, ?_⟩
  intro w blk cap cur d hlt hb hcap hcs htk
  have hblk := (Array.getElem?_eq_some_iff.1 hb).1
  have hH : Holds (Value.int .i64) w blk 0 d.toArray := by
    intro j hj
    have hj' : j < d.length := by simpa using hj
    refine ⟨?_, by simp [World.frozen?, hb]⟩
    have h1 : (cur.toList.take d.length)[j]? = some (Value.int .i64 d[j]) := by rw [htk, rowV_eI, List.getElem?_map, List.getElem?_eq_getElem hj']; rfl
    rw [List.getElem?_take_of_lt hj', Array.getElem?_toList] at h1
    simp only [World.cell?, hb, Nat.zero_add, Option.isSome_none, Bool.false_eq_true, if_false]
    rw [h1, getElem!_pos _ j (by simpa using hj')]
    simp
  refine (AnyM.slices_Sort_int Tryz.lsortI blk 0 cap d w hH hblk hlt).mono ?_
  rintro e w' ⟨rfl, n, os, rfl⟩
  have hsz : (d.mergeSort fun x y => decide (x ≤ y)).toArray.size = d.length := by simp
  refine ⟨rfl, putCells (Value.int .i64) 0 (d.mergeSort fun x y => decide (x ≤ y)).toArray cur, ⟨rfl, rfl, rfl, by simp [putRow, Sort.grow, mapBlock, Sort.ahead], fun k hk hne' => ?_⟩, ?_, by simp [putCells], ?_⟩
  · rw [heap_grow_old _ _ (by simpa using hk)]
    have : blk ≠ k := fun e => hne' (by rw [e])
    simp [putRow, mapBlock, Sort.ahead, Array.getElem?_modify, this]
  · rw [heap_grow_old _ _ (by simpa using hblk)]
    simp [putRow, mapBlock, Sort.ahead, Array.getElem?_modify, hb, onCells]
  · rw [rowV_eI]
    apply List.ext_getElem?
    intro j
    by_cases hj : j < d.length
    · rw [List.getElem?_take_of_lt hj, Array.getElem?_toList, List.getElem?_map]
      have h2 : j < (srtI d).length := by rw [srtI_length]; exact hj
      rw [List.getElem?_eq_getElem h2]
      have h3 : j < cur.size := by omega
      simp [putCells, hj, h3, srtI]
    · rw [List.getElem?_take_eq_none (by omega), List.getElem?_eq_none (by rw [List.length_map, srtI_length]; omega)]
end Go.Proofs.YtoiiblkncbnlaaaGreat

/-
  DERIVED: THE SHELF's CONTRACTS AT THIS DUMP, IN PLAIN WORDS (tools/lay-plain.mjs out of 'YtoiiblkncbnlaaaGreatLayBs.lean', which tools/lay-shelf.mjs wrote): THE SAME DECLARATIONS UNDER THE SAME NAMES: 'import', 'namespace', 'open', 'def', 'theorem' AND NOTHING ELSE: no command of the shelf's: FOR A HAND-IN. Each laying: the table of numbers ('.._ren') and one theorem, a field a fact of the dump's own or the kernel's comparison; each contract: ONE APPLICATION.
-/
namespace Go.Proofs
open Go.Shelf
def Tryz.lmul_ren : Go.Shelf.Ren := ⟨fun | 212 => 77 | 263 => 94 | 264 => 95 | n => n, fun | 46 => 99 | 51 => 128 | 146 => 137 | 53 => 130 | 148 => 139 | n => n, fun | n => n⟩
theorem Tryz.lmul : Go.Proofs.Lays.n212 Tryz.prog Tryz.lmul_ren := {
  mixed := by kernel_rfl
  f212 := Tryz.func77.trans (congrArg some (by kernel_rfl))
  f263 := Tryz.func94.trans (congrArg some (by kernel_rfl))
  f264 := Tryz.func95.trans (congrArg some (by kernel_rfl))
  t46 := Tryz.underlying99
  a46 := Tryz.isAgg99
  z46 := Tryz.sizeOf99
  v46 := Tryz.zeroValue99
  t51 := Tryz.underlying128
  a51 := Tryz.isAgg128
  z51 := Tryz.sizeOf128
  v51 := Tryz.zeroValue128
  t53 := Tryz.underlying130
  a53 := Tryz.isAgg130
  z53 := Tryz.sizeOf130
  v53 := Tryz.zeroValue130
  t146 := Tryz.underlying137
  a146 := Tryz.isAgg137
  z146 := Tryz.sizeOf137
  v146 := Tryz.zeroValue137
  t148 := Tryz.underlying139
  a148 := Tryz.isAgg139
  z148 := Tryz.sizeOf139
  v148 := Tryz.zeroValue139 }
end Go.Proofs

/-
  maps.Keys and slices.Sorted at a set of the call's own: the keys, ascending. Conditions: those of each theorem.
-/
set_option linter.unusedVariables false
set_option linter.unusedSimpArgs false
namespace Go.Proofs.YtoiiblkncbnlaaaGreat
open Go.DL Go.RowKit Go.Shelf Go.Sort Go.Maps
theorem sorts_in (m : Nat) : AnyZI.SortsIn Tryz.prog Tryz.lsorted_ren Fence.wide m :=
  ⟨fun blk off cap ss W hH hblk hsz => callsIn_wide.2 (AnyM.slices_Sort_int Tryz.lsortI blk off cap ss W hH hblk hsz),
   fun p cap W => callsIn_wide.2 (AnyM.slices_Sort_int_none Tryz.lsortI p cap W)⟩
theorem keys_okS : KeysOKS Tryz.prog 51 50 3 4 3 := by
  refine ⟨⟨Tryz.f51, by kernel_rfl, by kernel_rfl, by kernel_rfl⟩, ⟨Tryz.f50, by kernel_rfl, by kernel_rfl, by kernel_rfl⟩, ?_⟩
  intro w b n l hown hn
  have hbl := hown.lt
  have cK : CallsIn Fence.wide 5 Tryz.prog 51 #[.map (some b)] w fun e w' => e = .returned (.func (.func 72) #[] #[.pointer (some ⟨w.heap.size, 0, none⟩)]) ∧ w' = w.alloc (.cells #[.map (some b)] 85) :=
    AnyZI.keys_in Tryz.lkeys Fence.wide 5 trivial rfl (some b) w
  refine (callsIn_wide.1 cK).mono ?_
  rintro e1 w1 ⟨rfl, rfl⟩
  refine ⟨_, rfl, (Below.refl _ w).alloc (Nat.le_refl _) _, ?_⟩
  have hsize : Maps.size (mapS l) = l.length := by simp [Maps.size, mapS]
  have hl : l.length ≤ n := by
    have := ownsMapS_size hown
    obtain ⟨es, clock, _, _, hs, hD⟩ := hown
    have h2 := congrArg (fun d => match d with | DataW.map es => es.length | _ => 0) hD
    simp only [mapS, List.length_map] at h2
    rw [length_sorted] at h2
    simp at h2
    omega
  have hseq : SeqGives Fence.wide 2 Tryz.prog 72 #[.pointer (some ⟨w.heap.size, 0, none⟩)] encZ (fun ss => ss.Perm (intKeys (mapS l))) (Maps.size (mapS l)) (w.alloc (.cells #[.map (some b)] 85)) :=
    AnyZI.keys_gives (ρ := Tryz.lkeys_ren) { Tryz.lkeys with } Fence.wide _ trivial rfl (by omega) w.heap.size b n (mapS l) _ (by simp) (by simp) (hown.alloc _)
  have cS := AnyZI.sorted_in Tryz.lsorted Fence.wide 5 trivial trivial trivial trivial rfl (by omega) (sorts_in _) (enters_of Tryz.func64 (by kernel_rfl) rfl) 72 #[.pointer (some ⟨w.heap.size, 0, none⟩)] trivial
    (enters_of Tryz.func72 (by kernel_rfl) rfl) _ _ (by rw [hsize]; simp only [maxLen]; omega) (by rw [hsize]; omega) _ hseq
  change CallsIn _ _ Tryz.prog 50 _ _ _ at cS
  refine (callsIn_wide.1 cS).mono ?_
  rintro e2 w2 ⟨v, ss, rfl, hS, hrow, _, hb⟩
  exact ⟨v, ss, rfl, ((Below.refl _ w).alloc (Nat.le_refl _) _).trans (hb.mono (by simp)), hS, ownsRow_base_a hrow (by simp)⟩
end Go.Proofs.YtoiiblkncbnlaaaGreat

/-
  Chapter 42: what the library's functions and the divisions of chapter 38 do, as partial functions. Conditions: those of each theorem.
-/
set_option linter.unusedVariables false
set_option linter.unusedSimpArgs false
namespace Go.Proofs.YtoiiblkncbnlaaaGreat
open Go.DL Go.Shelf Go.RowKit Go.Sort Go.Maps
def encRow (r : Row) : D := .agg [I r.c, I r.pl, I r.wo, I r.dr, I r.lo, I r.fo, I r.ag, I r.af, I r.aw, I r.ca, I r.po]
theorem tup2 {w : World} {A : Nat → Prop} {d1 d2 : D} {v1 v2 : Value} (h1 : RelD w A d1 v1) (h2 : RelD w A d2 v2) : RelD w A (.tup [d1, d2]) (.tuple #[v1, v2]) := by
  refine .tup [d1, d2] #[v1, v2] rfl (fun j => match j with | 0 => v1 | _ => v2) (fun j c hj => ?_) (fun j c hj => ?_)
  · match j, hj with
    | 0, _ => rfl
    | 1, _ => rfl
  · match j, hj with
    | 0, hj => cases hj; exact h1
    | 1, hj => cases hj; exact h2
/-- math/bits.Mul. -/
def g_bits_Mul (x y : Int) : Option (Int × Int) :=
  if 0 ≤ x ∧ x < 18446744073709551616 ∧ 0 ≤ y ∧ y < 18446744073709551616 then some (x * y / 18446744073709551616, x * y % 18446744073709551616) else none
theorem g_bits_Mul_ret {x y : Int} {r : Int × Int} (h : g_bits_Mul x y = some r) : Ret Tryz.prog 77 [.int .u64 x, .int .u64 y] (.tup [.int .u64 r.1, .int .u64 r.2]) := by
  unfold g_bits_Mul at h
  split at h
  · rename_i hc
    obtain ⟨h1, h2, h3, h4⟩ := hc
    cases h
    obtain ⟨a, rfl⟩ := Int.eq_ofNat_of_zero_le h1
    obtain ⟨b, rfl⟩ := Int.eq_ofNat_of_zero_le h3
    refine ⟨⟨Tryz.f77, by kernel_rfl, by kernel_rfl, by kernel_rfl⟩, fun w A vs hA hsz hvs => ?_⟩
    obtain ⟨u, hu, k1⟩ := hvs 0 _ rfl
    obtain ⟨v, hv, k2⟩ := hvs 1 _ rfl
    cases k1; cases k2
    have e : vs = #[.int .u64 (a : Int), .int .u64 (b : Int)] := by
      apply Array.ext
      · simpa using hsz
      · intro i h5 h6
        have h7 : i = 0 ∨ i = 1 := by simp at h6; omega
        rcases h7 with rfl | rfl
        · rw [Array.getElem?_eq_getElem h5] at hu; simpa using hu
        · rw [Array.getElem?_eq_getElem h5] at hv; simpa using hv
    subst e
    have hcon := Any.bits_Mul Tryz.lmul a b (by omega) (by omega) w
    change Calls Tryz.prog 77 _ _ _ at hcon
    refine hcon.mono ?_
    rintro e w' ⟨rfl, rfl⟩
    refine ⟨_, rfl, Below.refl _ _, tup2 ?_ ?_⟩
    · have : ((a : Int) * (b : Int) / 18446744073709551616) = ((a * b / 18446744073709551616 : Nat) : Int) := by
        rw [show (a : Int) * (b : Int) = ((a * b : Nat) : Int) from (Int.natCast_mul a b).symm]
        generalize a * b = m
        omega
      rw [this]; exact .int _ _
    · have : ((a : Int) * (b : Int) % 18446744073709551616) = ((a * b % 18446744073709551616 : Nat) : Int) := by
        rw [show (a : Int) * (b : Int) = ((a * b : Nat) : Int) from (Int.natCast_mul a b).symm]
        generalize a * b = m
        omega
      rw [this]; exact .int _ _
  · cases h
def splitOK (a : Int) (ws : List Int) : Prop := 0 ≤ a ∧ a ≤ 1125899906842624 ∧ (∀ x ∈ ws, 0 ≤ x ∧ x ≤ 1000) ∧ ws.length ≤ 256 ∧ 0 < sumL 0 ws
instance (a : Int) (ws : List Int) : Decidable (splitOK a ws) := by unfold splitOK; infer_instance
def g_money_Split (a : Int) (ws : List Int) : Option (List Int × Int) := if splitOK a ws then some (splitW a (sumL 0 ws) ws, 0) else none
def g_ref05_Split (a : Int) (ws : List Int) : Option (List Int × Int) := if splitOK a ws then some (splitW a (sumL 0 ws) ws, 0) else none
theorem g_money_Split_ret {a : Int} {ws : List Int} {r : List Int × Int} (h : g_money_Split a ws = some r) : Ret Tryz.prog 57 [I a, .sl 1 (ws.map elI)] (.tup [.sl 1 (r.1.map elI), I r.2]) := by
  unfold g_money_Split at h
  split at h
  · rename_i hc
    cases h
    exact ret_split a ws hc.1 hc.2.1 hc.2.2.1 hc.2.2.2.1 hc.2.2.2.2
  · cases h
theorem g_ref05_Split_ret {a : Int} {ws : List Int} {r : List Int × Int} (h : g_ref05_Split a ws = some r) : Ret Tryz.prog 38 [I a, .sl 1 (ws.map elI)] (.tup [.sl 1 (r.1.map elI), I r.2]) := by
  unfold g_ref05_Split at h
  split at h
  · rename_i hc
    cases h
    exact ret_splitR a ws hc.1 hc.2.1 hc.2.2.1 hc.2.2.2.1 hc.2.2.2.2
  · cases h
/-- Payments ordered by clubs. -/
def srtP (l : List Pay) : List Pay := l.mergeSort fun p q => decide (p.c ≤ q.c)
theorem srtP_perm (l : List Pay) : (srtP l).Perm l := List.mergeSort_perm l _
theorem srtP_sorted (l : List Pay) : (srtP l).Pairwise fun p q => p.c ≤ q.c := by
  have := List.pairwise_mergeSort (le := fun p q : Pay => decide (p.c ≤ q.c)) (fun a b c h1 h2 => by simp at *; omega) (fun a b => by simp; omega) l
  exact this.imp fun h => by simpa using h
theorem map_inj {α β : Type} {f : α → β} : ∀ {l : List α}, (l.map f).Nodup → ∀ {a b : α}, a ∈ l → b ∈ l → f a = f b → a = b
  | [], _, a, _, ha, _, _ => by cases ha
  | x :: l, hn, a, b, ha, hb, e => by
    rw [List.map_cons, List.nodup_cons] at hn
    rcases List.mem_cons.1 ha with rfl | h1 <;> rcases List.mem_cons.1 hb with rfl | h2
    · rfl
    · exact (hn.1 (List.mem_map.2 ⟨b, h2, e.symm⟩)).elim
    · exact (hn.1 (List.mem_map.2 ⟨a, h1, e⟩)).elim
    · exact map_inj hn.2 h1 h2 e
theorem sortP_uniq {l d : List Pay} (h : sortP l d) (hn : (l.map (·.c)).Nodup) : d = srtP l := by
  have h1 : d.Pairwise fun p q => p.c ≤ q.c := h.2.imp fun h => by omega
  have hp : d.Perm (srtP l) := h.1.trans (srtP_perm l).symm
  refine hp.eq_of_pairwise (fun a b ha hb h1 h2 => ?_) h1 (srtP_sorted l)
  have ha' : a ∈ l := h.1.mem_iff.1 ha
  have hb' : b ∈ l := (srtP_perm l).mem_iff.1 hb
  have hc : a.c = b.c := by omega
  exact map_inj hn ha' hb' hc
end Go.Proofs.YtoiiblkncbnlaaaGreat

/-
  Go functions as partial functions, printed by auto.py: what each returns when its partial function has a value. Conditions: those of each theorem.
-/
namespace Go.Proofs.YtoiiblkncbnlaaaGreat
open Go.DL
set_option maxRecDepth 100000
set_option maxHeartbeats 4000000
set_option linter.unusedVariables false
set_option linter.unusedSimpArgs false
abbrev qRow (x : Row) : List C := [.dat (I x.c), .dat (I x.pl), .dat (I x.wo), .dat (I x.dr), .dat (I x.lo), .dat (I x.fo), .dat (I x.ag), .dat (I x.af), .dat (I x.aw), .dat (I x.ca), .dat (I x.po)]
abbrev qPlace (x : Place) : List C := [.dat (I x.k), .dat (I x.b), .dat (.str x.z), .dat (I x.r.c), .dat (I x.r.pl), .dat (I x.r.wo), .dat (I x.r.dr), .dat (I x.r.lo), .dat (I x.r.fo), .dat (I x.r.ag), .dat (I x.r.af), .dat (I x.r.aw), .dat (I x.r.ca), .dat (I x.r.po)]
abbrev qTab (x : Tab) : List C := [.dat (I x.s), .dat (I x.c), .dat (.sl 14 (x.l.map encPlace))]
abbrev qPrize (x : Prize) : List C := [.dat (I x.f), .dat (I x.t), .dat (I x.a)]
abbrev qSch (x : Sch) : List C := [.dat (I x.c), .dat (.sl 3 (x.p.map encPrize)), .dat (I x.u), .dat (I x.d), .dat (I x.ab), .dat (I x.be)]
def elL_encPlace (l : List Place) : D := .sl 14 (l.map encPlace)
structure League where
  table : Tab
  scheme : Sch
  deriving DecidableEq
def encLeague (x : League) : D := .agg [(I x.table.s), (I x.table.c), (.sl 14 (x.table.l.map encPlace)), (I x.scheme.c), (.sl 3 (x.scheme.p.map encPrize)), (I x.scheme.u), (I x.scheme.d), (I x.scheme.ab), (I x.scheme.be)]
abbrev qLeague (x : League) : List C := [.dat (I x.table.s), .dat (I x.table.c), .dat (.sl 14 (x.table.l.map encPlace)), .dat (I x.scheme.c), .dat (.sl 3 (x.scheme.p.map encPrize)), .dat (I x.scheme.u), .dat (I x.scheme.d), .dat (I x.scheme.ab), .dat (I x.scheme.be)]
noncomputable def g_law42_level_j1 (comp_1 : Int) (l_3 : List Place) : Option (Tab) :=
  some (⟨0, comp_1, l_3⟩ : Tab)
noncomputable def g_law42_level_l2 (clubs_2 : List Int) (comp_1 : Int) (v : Nat × (List Place)) : Option ((Nat × (List Place)) ⊕ (Tab)) :=
  match v with | (i_4, l_5) => if (decide (((i_4 : Nat) : Int) < ((clubs_2.length : Nat) : Int))) = true then (gn clubs_2 i_4 fun x_9 => ck ((l_5.length + ([(⟨1, 0, ([] : List UInt8), (⟨x_9, 0, 0, 0, 0, 0, 0, 0, 0, 0, 0⟩ : Row)⟩ : Place)]).length) * 120 ≤ 140737488355328) <| ckI (((i_4 : Nat) : Int) + 1) <| some (.inl (i_4 + 1, (l_5 ++ [(⟨1, 0, ([] : List UInt8), (⟨x_9, 0, 0, 0, 0, 0, 0, 0, 0, 0, 0⟩ : Row)⟩ : Place)])))) else up (g_law42_level_j1 comp_1 l_5)
noncomputable def g_law42_level (comp_1 : Int) (clubs_2 : List Int) : Option (Tab) :=
  loopO (g_law42_level_l2 clubs_2 comp_1) (0, ([] : List Place))
noncomputable def g_table_within (n_1 : Int) (least_2 : Int) (most_3 : Int) : Option (Bool) :=
  if (decide (n_1 ≥ least_2)) = true then (some (decide (n_1 ≤ most_3))) else some false
noncomputable def g_table_checkRow_j1 (r_1 : Row) : Option (Bool) :=
  bd (g_table_within r_1.c 0 191) fun r_2 => if (r_2) = true then (bd (g_table_within r_1.po (-99999) 99999) fun r_5 => some (r_5)) else some false
noncomputable def g_table_checkRow_l2 (r_1 : Row) (v : Nat) : Option ((Nat) ⊕ (Bool)) :=
  match v with | v_7 => if (decide (((v_7 : Nat) : Int) < ((([r_1.pl, r_1.wo, r_1.dr, r_1.lo, r_1.fo, r_1.ag, r_1.af, r_1.aw, r_1.ca]).length : Nat) : Int))) = true then (gn ([r_1.pl, r_1.wo, r_1.dr, r_1.lo, r_1.fo, r_1.ag, r_1.af, r_1.aw, r_1.ca]) v_7 fun x_10 => bd (g_table_within x_10 0 9999) fun r_14 => if (!(r_14)) = true then (up (some false)) else ckI (((v_7 : Nat) : Int) + 1) <| some (.inl (v_7 + 1))) else up (g_table_checkRow_j1 r_1)
noncomputable def g_table_checkRow (r_1 : Row) : Option (Bool) :=
  loopO (g_table_checkRow_l2 r_1) 0
noncomputable def g_table_Check_j2 : Option (Int) :=
  some 0
noncomputable def g_table_Check_j6 (x_9 : Place) (m_5 : List Int) (v_4 : Nat) (t_1 : Tab) (v_15 : Bool) : Option ((Nat × (List Int)) ⊕ (Int)) :=
  if (v_15) = true then (up (some 1)) else ckI (x_9.r.c) <| ck (m_5.length < maxLen) <| ckI (((v_4 : Nat) : Int) + 1) <| some (.inl (v_4 + 1, (sput m_5 x_9.r.c)))
noncomputable def g_table_Check_j5 (x_9 : Place) (m_5 : List Int) (v_4 : Nat) (t_1 : Tab) (ok_14 : Bool) : Option ((Nat × (List Int)) ⊕ (Int)) :=
  if (!(ok_14)) = true then (g_table_Check_j6 x_9 m_5 v_4 t_1 true) else if (decide (((x_9.z.length : Nat) : Int) > 24)) = true then (g_table_Check_j6 x_9 m_5 v_4 t_1 true) else bd (g_table_checkRow x_9.r) fun r_22 => if (!(r_22)) = true then (g_table_Check_j6 x_9 m_5 v_4 t_1 true) else ckI (x_9.r.c) <| g_table_Check_j6 x_9 m_5 v_4 t_1 (smem m_5 x_9.r.c)
noncomputable def g_table_Check_j7 (x_9 : Place) (v_4 : Nat) (t_1 : Tab) (m_5 : List Int) (ok_13 : Bool) (v_26 : Bool) : Option ((Nat × (List Int)) ⊕ (Int)) :=
  if (v_26) = true then (if (x_9.b == 0) = true then (ckI (((v_4 : Nat) : Int) - 1) <| gt t_1.l (((v_4 : Nat) : Int) - 1) fun x_30 => g_table_Check_j5 x_9 m_5 v_4 t_1 (decide (x_9.r.c > x_30.r.c))) else g_table_Check_j5 x_9 m_5 v_4 t_1 false) else g_table_Check_j5 x_9 m_5 v_4 t_1 (ok_13)
noncomputable def g_table_Check_j4 (v_4 : Nat) (t_1 : Tab) (x_9 : Place) (m_5 : List Int) (ok_13 : Bool) : Option ((Nat × (List Int)) ⊕ (Int)) :=
  if (decide (((v_4 : Nat) : Int) > 0)) = true then (ckI (((v_4 : Nat) : Int) - 1) <| gt t_1.l (((v_4 : Nat) : Int) - 1) fun x_36 => g_table_Check_j7 x_9 v_4 t_1 m_5 ok_13 (x_9.k == x_36.k)) else g_table_Check_j7 x_9 v_4 t_1 m_5 ok_13 false
noncomputable def g_table_Check_l3 (t_1 : Tab) (v : Nat × (List Int)) : Option ((Nat × (List Int)) ⊕ (Int)) :=
  match v with | (v_4, m_5) => if (decide (((v_4 : Nat) : Int) < ((t_1.l.length : Nat) : Int))) = true then (gn t_1.l v_4 fun x_9 => ckI (((v_4 : Nat) : Int) + 1) <| if (x_9.k == ((v_4 + 1 : Nat) : Int)) = true then (if (((v_4 : Nat) : Int) == 0) = true then (if (x_9.b == 0) = true then (g_table_Check_j4 v_4 t_1 x_9 m_5 true) else if (decide (((v_4 : Nat) : Int) > 0)) = true then (bd (g_table_within x_9.b 1 12) fun r_45 => g_table_Check_j4 v_4 t_1 x_9 m_5 (r_45)) else g_table_Check_j4 v_4 t_1 x_9 m_5 false) else if (decide (((v_4 : Nat) : Int) > 0)) = true then (bd (g_table_within x_9.b 1 12) fun r_48 => g_table_Check_j4 v_4 t_1 x_9 m_5 (r_48)) else g_table_Check_j4 v_4 t_1 x_9 m_5 false) else g_table_Check_j4 v_4 t_1 x_9 m_5 false) else up (g_table_Check_j2)
noncomputable def g_table_Check_j1 (t_1 : Tab) (v_2 : Bool) : Option (Int) :=
  if (v_2) = true then (some 1) else loopO (g_table_Check_l3 t_1) (0, ([] : List Int))
noncomputable def g_table_Check (t_1 : Tab) : Option (Int) :=
  bd (g_table_within t_1.s 0 63) fun r_50 => if (!(r_50)) = true then (g_table_Check_j1 t_1 true) else bd (g_table_within t_1.c 0 15) fun r_53 => if (!(r_53)) = true then (g_table_Check_j1 t_1 true) else bd (g_table_within ((t_1.l.length : Nat) : Int) 2 24) fun r_56 => g_table_Check_j1 t_1 (!(r_56))
noncomputable def g_prizes_Check_1 (n_1 : Int) (low_2 : Int) (high_3 : Int) : Option (Bool) :=
  if (decide (low_2 ≤ n_1)) = true then (some (decide (n_1 ≤ high_3))) else some false
noncomputable def g_prizes_Check_j3 (v_5 : Bool) : Option (Int) :=
  if (v_5) = true then (some 420) else some 0
noncomputable def g_prizes_Check_j5 (s_1 : Sch) (v_8 : Bool) (v_10 : Bool) : Option (Int) :=
  if (!(v_10)) = true then (g_prizes_Check_j3 true) else if (s_1.ab == s_1.be) = true then (if (s_1.ab != (-1)) = true then (g_prizes_Check_j3 true) else if (s_1.ab == (-1)) = true then (if (decide (s_1.u > 0)) = true then (g_prizes_Check_j3 true) else if (s_1.be == (-1)) = true then (g_prizes_Check_j3 (decide (s_1.d > 0))) else g_prizes_Check_j3 false) else if (s_1.be == (-1)) = true then (g_prizes_Check_j3 (decide (s_1.d > 0))) else g_prizes_Check_j3 false) else if (s_1.ab == (-1)) = true then (if (decide (s_1.u > 0)) = true then (g_prizes_Check_j3 true) else if (s_1.be == (-1)) = true then (g_prizes_Check_j3 (decide (s_1.d > 0))) else g_prizes_Check_j3 false) else if (s_1.be == (-1)) = true then (g_prizes_Check_j3 (decide (s_1.d > 0))) else g_prizes_Check_j3 false
noncomputable def g_prizes_Check_j4 (s_1 : Sch) (sum_4 : Int) (v_8 : Bool) : Option (Int) :=
  if (!(v_8)) = true then (g_prizes_Check_j3 true) else bd (g_prizes_Check_1 s_1.be (-1) 7) fun r_22 => if (r_22) = true then (g_prizes_Check_j5 s_1 v_8 (s_1.be != s_1.c)) else g_prizes_Check_j5 s_1 v_8 false
noncomputable def g_prizes_Check_j2 (s_1 : Sch) (sum_4 : Int) : Option (Int) :=
  if (decide (sum_4 > 1125899906842624)) = true then (g_prizes_Check_j3 true) else bd (g_prizes_Check_1 s_1.ab (-1) 7) fun r_25 => if (r_25) = true then (g_prizes_Check_j4 s_1 sum_4 (s_1.ab != s_1.c)) else g_prizes_Check_j4 s_1 sum_4 false
noncomputable def g_prizes_Check_j7 (sum_28 : Int) (x_35 : Prize) (v_30 : Nat) (s_1 : Sch) (v_39 : Bool) : Option ((Int × Int × Nat) ⊕ (Int)) :=
  if (v_39) = true then (up (some 420)) else ckI (sum_28 + x_35.a) <| ckI (((v_30 : Nat) : Int) + 1) <| some (.inl ((sum_28 + x_35.a), x_35.t, v_30 + 1))
noncomputable def g_prizes_Check_l6 (s_1 : Sch) (v : Int × Int × Nat) : Option ((Int × Int × Nat) ⊕ (Int)) :=
  match v with | (sum_28, last_29, v_30) => if (decide (((v_30 : Nat) : Int) < ((s_1.p.length : Nat) : Int))) = true then (gn s_1.p v_30 fun x_35 => if (decide (x_35.f ≤ last_29)) = true then (g_prizes_Check_j7 sum_28 x_35 v_30 s_1 true) else if (decide (x_35.t < x_35.f)) = true then (g_prizes_Check_j7 sum_28 x_35 v_30 s_1 true) else if (decide (x_35.t > 24)) = true then (g_prizes_Check_j7 sum_28 x_35 v_30 s_1 true) else bd (g_prizes_Check_1 x_35.a 1 1125899906842624) fun r_46 => g_prizes_Check_j7 sum_28 x_35 v_30 s_1 (!(r_46))) else up (g_prizes_Check_j2 s_1 sum_28)
noncomputable def g_prizes_Check_j1 (s_1 : Sch) (v_2 : Bool) : Option (Int) :=
  if (v_2) = true then (some 420) else loopO (g_prizes_Check_l6 s_1) (0, 0, 0)
noncomputable def g_prizes_Check (s_1 : Sch) : Option (Int) :=
  bd (g_prizes_Check_1 s_1.c 0 7) fun r_48 => if (!(r_48)) = true then (g_prizes_Check_j1 s_1 true) else bd (g_prizes_Check_1 s_1.u 0 24) fun r_51 => if (!(r_51)) = true then (g_prizes_Check_j1 s_1 true) else bd (g_prizes_Check_1 s_1.d 0 24) fun r_54 => if (!(r_54)) = true then (g_prizes_Check_j1 s_1 true) else g_prizes_Check_j1 s_1 (decide (((s_1.p.length : Nat) : Int) > 24))
noncomputable def g_prizes_fits (t_1 : Tab) (s_2 : Sch) : Option (Int) :=
  bd (g_table_Check t_1) fun r_3 => if (r_3 != 0) = true then (some r_3) else bd (g_prizes_Check s_2) fun r_6 => if (r_6 != 0) = true then (some r_6) else if (t_1.c != s_2.c) = true then (some 420) else some 0
noncomputable def g_slices_Repeat_Lint_int_j2 (l_13 : List Int) : Option (List Int) :=
  some l_13
noncomputable def g_slices_Repeat_Lint_int_l3 (v : Nat × (List Int)) : Option ((Nat × (List Int)) ⊕ (List Int)) :=
  match v with | (n_14, l_15) => if (decide (((n_14 : Nat) : Int) < ((l_15.length : Nat) : Int))) = true then (sbp l_15.length (some ((n_14 : Nat) : Int)) none fun p_19 m_20 => sbp l_15.length none (some ((n_14 : Nat) : Int)) fun p_22 m_23 => ck (p_19 + m_20 ≤ l_15.length) <| ck (p_22 + m_23 ≤ l_15.length) <| letO (Nat.min ((l_15.drop p_22).take m_23).length m_20) fun m_27 => ckI (((n_14 : Nat) : Int) + ((m_27 : Nat) : Int)) <| some (.inl (n_14 + m_27, (l_15.take p_19 ++ ((l_15.drop p_22).take m_23).take m_27 ++ l_15.drop (p_19 + m_27))))) else up (g_slices_Repeat_Lint_int_j2 l_15)
noncomputable def g_slices_Repeat_Lint_int_j1 (r_4 : Int × Int) (x_1 : List Int) (v_6 : Bool) : Option (List Int) :=
  if (v_6) = true then (none) else ckI (r_4.2) <| ck (0 ≤ (r_4.2 : Int) ∧ (r_4.2 : Int) ≤ (r_4.2 : Int) ∧ ((8 : Nat) : Int) * r_4.2 ≤ 140737488355328 ∧ (r_4.2 : Int) ≤ 140737488355328) <| ck (0 + (List.replicate (r_4.2).toNat (0 : Int)).length ≤ (List.replicate (r_4.2).toNat (0 : Int)).length) <| letO (Nat.min x_1.length ((List.replicate (r_4.2).toNat (0 : Int)).length)) fun m_11 => loopO g_slices_Repeat_Lint_int_l3 (m_11, ((List.replicate (r_4.2).toNat (0 : Int)).take 0 ++ x_1.take m_11 ++ (List.replicate (r_4.2).toNat (0 : Int)).drop (0 + m_11)))
noncomputable def g_slices_Repeat_Lint_int (x_1 : List Int) (count_2 : Int) : Option (List Int) :=
  if (decide (count_2 < 0)) = true then (none) else bd (g_bits_Mul (IntKind.u64.wrap ((x_1.length : Nat) : Int)) (IntKind.u64.wrap count_2)) fun r_4 => if (decide (r_4.1 > 0)) = true then (g_slices_Repeat_Lint_int_j1 r_4 x_1 true) else g_slices_Repeat_Lint_int_j1 r_4 x_1 (decide (r_4.2 > 9223372036854775807))
noncomputable def g_prizes_equal (amount_1 : Int) (n_2 : Int) : Option (List Int) :=
  bd (g_slices_Repeat_Lint_int ([(1 : Int)]) n_2) fun r_3 => bd (g_money_Split amount_1 r_3) fun r_5 => some r_5.1
noncomputable def g_prizes_parts_j1 (l_3 : List Int) : Option (List Int) :=
  sb l_3 (some 1) none fun s_4 => some s_4
noncomputable def g_prizes_parts_j3 (v_6 : Nat) (s_1 : Sch) (l_11 : List Int) : Option ((Nat × (List Int)) ⊕ (List Int)) :=
  ckI (((v_6 : Nat) : Int) + 1) <| some (.inl (v_6 + 1, l_11))
noncomputable def g_prizes_parts_l4 (r_19 : List Int) (x_13 : Prize) (v_6 : Nat) (s_1 : Sch) (v : Nat × (List Int)) : Option ((Nat × (List Int)) ⊕ ((Nat × (List Int)) ⊕ (List Int))) :=
  match v with | (v_21, l_22) => if (decide (((v_21 : Nat) : Int) < ((r_19.length : Nat) : Int))) = true then (gn r_19 v_21 fun x_26 => ckI (x_13.f + ((v_21 : Nat) : Int)) <| gt l_22 (x_13.f + ((v_21 : Nat) : Int)) fun x_31 => ckI (((v_21 : Nat) : Int) + 1) <| some (.inl (v_21 + 1, (l_22.set ((x_13.f + ((v_21 : Nat) : Int))).toNat x_26)))) else up (g_prizes_parts_j3 v_6 s_1 l_22)
noncomputable def g_prizes_parts_l2 (s_1 : Sch) (v : Nat × (List Int)) : Option ((Nat × (List Int)) ⊕ (List Int)) :=
  match v with | (v_6, l_7) => if (decide (((v_6 : Nat) : Int) < ((s_1.p.length : Nat) : Int))) = true then (gn s_1.p v_6 fun x_13 => ckI (x_13.t - x_13.f) <| ckI ((x_13.t - x_13.f) + 1) <| bd (g_prizes_equal x_13.a ((x_13.t - x_13.f) + 1)) fun r_19 => loopO (g_prizes_parts_l4 r_19 x_13 v_6 s_1) (0, l_7)) else up (g_prizes_parts_j1 l_7)
noncomputable def g_prizes_parts (s_1 : Sch) : Option (List Int) :=
  ck (0 ≤ (25 : Int) ∧ (25 : Int) ≤ (25 : Int) ∧ ((8 : Nat) : Int) * 25 ≤ 140737488355328 ∧ (25 : Int) ≤ 140737488355328) <| loopO (g_prizes_parts_l2 s_1) (0, (List.replicate 25 (0 : Int)))
noncomputable def g_prizes_Prizes_2 (a_1 : Place) (b_2 : Place) : Option (Bool) :=
  some (a_1.k == b_2.k)
noncomputable def g_math_bits_Len64_j3 (x_6 : Int) (n_7 : Int) : Option (Int) :=
  gt ([0, 1, 2, 2, 3, 3, 3, 3, 4, 4, 4, 4, 4, 4, 4, 4, 5, 5, 5, 5, 5, 5, 5, 5, 5, 5, 5, 5, 5, 5, 5, 5, 6, 6, 6, 6, 6, 6, 6, 6, 6, 6, 6, 6, 6, 6, 6, 6, 6, 6, 6, 6, 6, 6, 6, 6, 6, 6, 6, 6, 6, 6, 6, 6, 7, 7, 7, 7, 7, 7, 7, 7, 7, 7, 7, 7, 7, 7, 7, 7, 7, 7, 7, 7, 7, 7, 7, 7, 7, 7, 7, 7, 7, 7, 7, 7, 7, 7, 7, 7, 7, 7, 7, 7, 7, 7, 7, 7, 7, 7, 7, 7, 7, 7, 7, 7, 7, 7, 7, 7, 7, 7, 7, 7, 7, 7, 7, 7, 8, 8, 8, 8, 8, 8, 8, 8, 8, 8, 8, 8, 8, 8, 8, 8, 8, 8, 8, 8, 8, 8, 8, 8, 8, 8, 8, 8, 8, 8, 8, 8, 8, 8, 8, 8, 8, 8, 8, 8, 8, 8, 8, 8, 8, 8, 8, 8, 8, 8, 8, 8, 8, 8, 8, 8, 8, 8, 8, 8, 8, 8, 8, 8, 8, 8, 8, 8, 8, 8, 8, 8, 8, 8, 8, 8, 8, 8, 8, 8, 8, 8, 8, 8, 8, 8, 8, 8, 8, 8, 8, 8, 8, 8, 8, 8, 8, 8, 8, 8, 8, 8, 8, 8, 8, 8, 8, 8, 8, 8, 8, 8, 8, 8, 8, 8, 8, 8, 8, 8, 8, 8, 8, 8, 8, 8, 8, 8] : List UInt8) (IntKind.u8.wrap x_6) fun b_8 => ckI (((b_8.toNat : Nat) : Int)) <| ckI (n_7 + ((b_8.toNat : Nat) : Int)) <| some (n_7 + ((b_8.toNat : Nat) : Int))
noncomputable def g_math_bits_Len64_j2 (x_4 : Int) (n_5 : Int) : Option (Int) :=
  if (decide (x_4 ≥ 256)) = true then (ckI (n_5 + 8) <| g_math_bits_Len64_j3 (x_4 / 2 ^ (8 : Int).toNat) (n_5 + 8)) else g_math_bits_Len64_j3 x_4 n_5
noncomputable def g_math_bits_Len64_j1 (x_2 : Int) (n_3 : Int) : Option (Int) :=
  if (decide (x_2 ≥ 65536)) = true then (ckI (n_3 + 16) <| g_math_bits_Len64_j2 (x_2 / 2 ^ (16 : Int).toNat) (n_3 + 16)) else g_math_bits_Len64_j2 x_2 n_3
noncomputable def g_math_bits_Len64 (x_1 : Int) : Option (Int) :=
  if (decide (x_1 ≥ 4294967296)) = true then (g_math_bits_Len64_j1 (x_1 / 2 ^ (32 : Int).toNat) 32) else g_math_bits_Len64_j1 x_1 0
noncomputable def g_math_bits_Len (x_1 : Int) : Option (Int) :=
  bd (g_math_bits_Len64 x_1) fun r_2 => some r_2
noncomputable def g_prizes_Prizes_j2 (l_9 : List Pay) : Option ((List Pay) × Int) :=
  some (l_9, 0)
noncomputable def g_prizes_Prizes_j3 : Option ((List Pay) × Int) :=
  g_prizes_Prizes_j2 ([] : List Pay)
noncomputable def g_prizes_Prizes_j5 : Option ((Unit) ⊕ ((List Pay) × Int)) :=
  up (g_prizes_Prizes_j3)
noncomputable def g_prizes_Prizes_l6 (v : Unit) : Option ((Unit) ⊕ ((Unit) ⊕ ((List Pay) × Int))) :=
  match v with | () => up (g_prizes_Prizes_j5)
noncomputable def g_prizes_Prizes_l4 (r_11 : Int) (v : Unit) : Option ((Unit) ⊕ ((List Pay) × Int)) :=
  match v with | () => loopO g_prizes_Prizes_l6 ()
noncomputable def g_prizes_Prizes_j1 (l_8 : List Pay) : Option ((List Pay) × Int) :=
  if l_8 = [] then (bd (g_math_bits_Len 0) fun r_11 => loopO (g_prizes_Prizes_l4 r_11) ()) else ck ((l_8.map (·.c)).Nodup) <| ck (l_8.length < 4611686018427387904) <| g_prizes_Prizes_j2 (srtP l_8)
noncomputable def g_prizes_Prizes_j9 (v_20 : Nat) (l_18 : List (List Place)) (rest_26 : List Int) (l_27 : List Pay) : Option (((List Int) × Nat × (List Pay)) ⊕ ((List Pay) × Int)) :=
  ckI (((v_20 : Nat) : Int) + 1) <| some (.inl (rest_26, v_20 + 1, l_27))
noncomputable def g_prizes_Prizes_j12 (v_38 : Nat) (s_34 : List Int) (x_29 : (List Place)) (l_18 : List (List Place)) (v_20 : Nat) (r_36 : List Int) (l_51 : List Pay) : Option ((Nat × (List Pay)) ⊕ (((List Int) × Nat × (List Pay)) ⊕ ((List Pay) × Int))) :=
  ckI (((v_38 : Nat) : Int) + 1) <| some (.inl (v_38 + 1, l_51))
noncomputable def g_prizes_Prizes_l11 (r_36 : List Int) (x_29 : (List Place)) (s_34 : List Int) (l_18 : List (List Place)) (v_20 : Nat) (v : Nat × (List Pay)) : Option ((Nat × (List Pay)) ⊕ (((List Int) × Nat × (List Pay)) ⊕ ((List Pay) × Int))) :=
  match v with | (v_38, l_39) => if (decide (((v_38 : Nat) : Int) < ((r_36.length : Nat) : Int))) = true then (gn r_36 v_38 fun x_43 => gn x_29 v_38 fun x_47 => if (decide (x_43 > 0)) = true then (ck ((l_39.length + ([(⟨x_47.r.c, x_43⟩ : Pay)]).length) * 16 ≤ 140737488355328) <| g_prizes_Prizes_j12 v_38 s_34 x_29 l_18 v_20 r_36 (l_39 ++ [(⟨x_47.r.c, x_43⟩ : Pay)])) else g_prizes_Prizes_j12 v_38 s_34 x_29 l_18 v_20 r_36 l_39) else up (g_prizes_Prizes_j9 v_20 l_18 s_34 l_39)
noncomputable def g_prizes_Prizes_j10 (rest_19 : List Int) (x_29 : (List Place)) (l_18 : List (List Place)) (v_20 : Nat) (l_21 : List Pay) (sum_33 : Int) : Option (((List Int) × Nat × (List Pay)) ⊕ ((List Pay) × Int)) :=
  sb rest_19 (some ((x_29.length : Nat) : Int)) none fun s_34 => bd (g_prizes_equal sum_33 ((x_29.length : Nat) : Int)) fun r_36 => loopO (g_prizes_Prizes_l11 r_36 x_29 s_34 l_18 v_20) (0, l_21)
noncomputable def g_prizes_Prizes_l13 (s_55 : List Int) (rest_19 : List Int) (x_29 : (List Place)) (l_18 : List (List Place)) (v_20 : Nat) (l_21 : List Pay) (v : Int × Nat) : Option ((Int × Nat) ⊕ (((List Int) × Nat × (List Pay)) ⊕ ((List Pay) × Int))) :=
  match v with | (sum_57, v_58) => if (decide (((v_58 : Nat) : Int) < ((s_55.length : Nat) : Int))) = true then (gn s_55 v_58 fun x_62 => ckI (sum_57 + x_62) <| ckI (((v_58 : Nat) : Int) + 1) <| some (.inl ((sum_57 + x_62), v_58 + 1))) else up (g_prizes_Prizes_j10 rest_19 x_29 l_18 v_20 l_21 sum_57)
noncomputable def g_prizes_Prizes_l8 (l_18 : List (List Place)) (v : (List Int) × Nat × (List Pay)) : Option (((List Int) × Nat × (List Pay)) ⊕ ((List Pay) × Int)) :=
  match v with | (rest_19, v_20, l_21) => if (decide (((v_20 : Nat) : Int) < ((l_18.length : Nat) : Int))) = true then (gn l_18 v_20 fun x_29 => sb rest_19 none (some ((x_29.length : Nat) : Int)) fun s_55 => loopO (g_prizes_Prizes_l13 s_55 rest_19 x_29 l_18 v_20 l_21) (0, 0)) else up (g_prizes_Prizes_j1 l_21)
noncomputable def g_prizes_Prizes_j7 (r_6 : List Int) (l_18 : List (List Place)) : Option ((List Pay) × Int) :=
  loopO (g_prizes_Prizes_l8 l_18) (r_6, 0, ([] : List Pay))
noncomputable def g_prizes_Prizes_j14 (r_6 : List Int) : Option ((List Pay) × Int) :=
  g_prizes_Prizes_j7 r_6 ([] : List (List Place))
noncomputable def g_prizes_Prizes_j15 (r_6 : List Int) (l_68 : List (List Place)) (l_69 : List Place) : Option ((List Pay) × Int) :=
  g_prizes_Prizes_j7 r_6 (l_68 ++ [l_69])
noncomputable def g_prizes_Prizes_j17 (v_71 : Nat) (t_1 : Tab) (l_83 : List (List Place)) (l_84 : List Place) : Option (((Unit) ⊕ (Nat × (List (List Place)) × (List Place))) ⊕ ((List Pay) × Int)) :=
  ckI (((v_71 : Nat) : Int) + 1) <| some (.inl (.inr (v_71 + 1, l_83, l_84)))
noncomputable def g_prizes_Prizes_j18 (l_72 : List (List Place)) (l_73 : List Place) (x_86 : Place) (v_71 : Nat) (t_1 : Tab) (v_90 : Bool) : Option (((Unit) ⊕ (Nat × (List (List Place)) × (List Place))) ⊕ ((List Pay) × Int)) :=
  if (v_90) = true then (ckI (((l_72.length + 1 : Nat) : Int) - 1) <| ck (0 ≤ ((((l_72.length + 1 : Nat) : Int) - 1) : Int) ∧ ((((l_72.length + 1 : Nat) : Int) - 1) : Int) < ((l_72.length + 1 : Nat) : Int)) <| ck (((((l_72.length + 1 : Nat) : Int) - 1)).toNat = l_72.length) <| ck ((l_73.length + ([x_86]).length) * 120 ≤ 140737488355328) <| g_prizes_Prizes_j17 v_71 t_1 l_72 (l_73 ++ [x_86])) else ck ((l_72.length + 1 + 1) * 24 ≤ 140737488355328) <| g_prizes_Prizes_j17 v_71 t_1 (l_72 ++ [l_73]) ([x_86])
noncomputable def g_prizes_Prizes_l16 (t_1 : Tab) (r_6 : List Int) (v : (Unit) ⊕ (Nat × (List (List Place)) × (List Place))) : Option (((Unit) ⊕ (Nat × (List (List Place)) × (List Place))) ⊕ ((List Pay) × Int)) :=
  match v with 
  | (.inl _) => if (decide (0 < ((t_1.l.length : Nat) : Int))) = true then (gn t_1.l 0 fun x_78 => some (.inl (.inr (1, ([] : List (List Place)), [x_78])))) else up (g_prizes_Prizes_j14 r_6) 
  | (.inr (v_71, l_72, l_73)) => if (decide (((v_71 : Nat) : Int) < ((t_1.l.length : Nat) : Int))) = true then (gn t_1.l v_71 fun x_86 => if (decide (((v_71 : Nat) : Int) > 0)) = true then (ckI (((v_71 : Nat) : Int) - 1) <| gt t_1.l (((v_71 : Nat) : Int) - 1) fun x_99 => bd (g_prizes_Prizes_2 x_99 x_86) fun r_103 => g_prizes_Prizes_j18 l_72 l_73 x_86 v_71 t_1 (r_103)) else g_prizes_Prizes_j18 l_72 l_73 x_86 v_71 t_1 false) else up (g_prizes_Prizes_j15 r_6 l_72 l_73)
noncomputable def g_prizes_Prizes (t_1 : Tab) (s_2 : Sch) : Option ((List Pay) × Int) :=
  bd (g_prizes_fits t_1 s_2) fun r_3 => if (r_3 != 0) = true then (some (([] : List Pay), r_3)) else bd (g_prizes_parts s_2) fun r_6 => loopO (g_prizes_Prizes_l16 t_1 r_6) (.inl ())
noncomputable def g_prizes_of_j3 (tables_1 : List Tab) (v_4 : Int) (schemes_2 : List Sch) (v_5 : Int) (v_6 : Bool) : Option (League × Bool) :=
  if (v_6) = true then (some ((⟨(⟨0, 0, ([] : List Place)⟩ : Tab), (⟨0, ([] : List Prize), 0, 0, 0, 0⟩ : Sch)⟩ : League), false)) else gt tables_1 v_4 fun x_8 => gt schemes_2 v_5 fun x_12 => some ((⟨x_8, x_12⟩ : League), true)
noncomputable def g_prizes_of_j2 (v_4 : Int) (tables_1 : List Tab) (schemes_2 : List Sch) (v_5 : Int) : Option (League × Bool) :=
  if (decide (v_4 < 0)) = true then (g_prizes_of_j3 tables_1 v_4 schemes_2 v_5 true) else g_prizes_of_j3 tables_1 v_4 schemes_2 v_5 (decide (v_5 < 0))
noncomputable def g_prizes_of_j4 (v_4 : Int) (tables_1 : List Tab) (schemes_2 : List Sch) : Option (League × Bool) :=
  g_prizes_of_j2 v_4 tables_1 schemes_2 (-1)
noncomputable def g_prizes_of_l5 (schemes_2 : List Sch) (comp_3 : Int) (v_4 : Int) (tables_1 : List Tab) (v : Nat) : Option ((Nat) ⊕ (League × Bool)) :=
  match v with | v_17 => if (decide (((v_17 : Nat) : Int) < ((schemes_2.length : Nat) : Int))) = true then (gn schemes_2 v_17 fun x_20 => if (x_20.c == comp_3) = true then (up (g_prizes_of_j2 v_4 tables_1 schemes_2 ((v_17 : Nat) : Int))) else ckI (((v_17 : Nat) : Int) + 1) <| some (.inl (v_17 + 1))) else up (g_prizes_of_j4 v_4 tables_1 schemes_2)
noncomputable def g_prizes_of_j1 (schemes_2 : List Sch) (comp_3 : Int) (tables_1 : List Tab) (v_4 : Int) : Option (League × Bool) :=
  loopO (g_prizes_of_l5 schemes_2 comp_3 v_4 tables_1) 0
noncomputable def g_prizes_of_j6 (schemes_2 : List Sch) (comp_3 : Int) (tables_1 : List Tab) : Option (League × Bool) :=
  g_prizes_of_j1 schemes_2 comp_3 tables_1 (-1)
noncomputable def g_prizes_of_l7 (tables_1 : List Tab) (comp_3 : Int) (schemes_2 : List Sch) (v : Nat) : Option ((Nat) ⊕ (League × Bool)) :=
  match v with | v_26 => if (decide (((v_26 : Nat) : Int) < ((tables_1.length : Nat) : Int))) = true then (gn tables_1 v_26 fun x_29 => if (x_29.c == comp_3) = true then (up (g_prizes_of_j1 schemes_2 comp_3 tables_1 ((v_26 : Nat) : Int))) else ckI (((v_26 : Nat) : Int) + 1) <| some (.inl (v_26 + 1))) else up (g_prizes_of_j6 schemes_2 comp_3 tables_1)
noncomputable def g_prizes_of (tables_1 : List Tab) (schemes_2 : List Sch) (comp_3 : Int) : Option (League × Bool) :=
  loopO (g_prizes_of_l7 tables_1 comp_3 schemes_2) 0
noncomputable def g_prizes_clubs_j1 (l_2 : List Int) : Option (List Int) :=
  ck (l_2.length < 4611686018427387904) <| some (srtI l_2)
noncomputable def g_prizes_clubs_l2 (l_1 : List Place) (v : Nat × (List Int)) : Option ((Nat × (List Int)) ⊕ (List Int)) :=
  match v with | (v_4, l_5) => if (decide (((v_4 : Nat) : Int) < ((l_1.length : Nat) : Int))) = true then (gn l_1 v_4 fun x_9 => ck ((l_5.length + ([x_9.r.c]).length) * 8 ≤ 140737488355328) <| ckI (((v_4 : Nat) : Int) + 1) <| some (.inl (v_4 + 1, (l_5 ++ [x_9.r.c])))) else up (g_prizes_clubs_j1 l_5)
noncomputable def g_prizes_clubs (l_1 : List Place) : Option (List Int) :=
  loopO (g_prizes_clubs_l2 l_1) (0, ([] : List Int))
noncomputable def g_prizes_Moves (t_1 : Tab) (s_2 : Sch) : Option ((List Int) × (List Int) × Int) :=
  bd (g_prizes_fits t_1 s_2) fun r_3 => if (r_3 != 0) = true then (some (([] : List Int), ([] : List Int), r_3)) else ckI (s_2.u + s_2.d) <| if (decide ((s_2.u + s_2.d) > ((t_1.l.length : Nat) : Int))) = true then (some (([] : List Int), ([] : List Int), 420)) else sb t_1.l none (some s_2.u) fun s_8 => bd (g_prizes_clubs s_8) fun r_10 => ckI (((t_1.l.length : Nat) : Int) - s_2.d) <| sb t_1.l (some (((t_1.l.length : Nat) : Int) - s_2.d)) none fun s_13 => bd (g_prizes_clubs s_13) fun r_15 => some (r_10, r_15, 0)
noncomputable def g_slices_Index_Lint_int_j1 : Option (Int) :=
  some (-1)
noncomputable def g_slices_Index_Lint_int_l2 (s_1 : List Int) (v_2 : Int) (v : Nat) : Option ((Nat) ⊕ (Int)) :=
  match v with | v_3 => if (decide (((v_3 : Nat) : Int) < ((s_1.length : Nat) : Int))) = true then (gn s_1 v_3 fun x_6 => if (v_2 == x_6) = true then (up (some ((v_3 : Nat) : Int))) else ckI (((v_3 : Nat) : Int) + 1) <| some (.inl (v_3 + 1))) else up (g_slices_Index_Lint_int_j1)
noncomputable def g_slices_Index_Lint_int (s_1 : List Int) (v_2 : Int) : Option (Int) :=
  loopO (g_slices_Index_Lint_int_l2 s_1 v_2) 0
noncomputable def g_slices_Contains_Lint_int (s_1 : List Int) (v_2 : Int) : Option (Bool) :=
  bd (g_slices_Index_Lint_int s_1 v_2) fun r_3 => some (decide (r_3 ≥ 0))
noncomputable def g_prizes_Next_j6 (m_19 : List Int) (v_20 : Bool) : Option ((List Int) × Int) :=
  if (v_20) = true then (some (([] : List Int), 190)) else ck (m_19.Pairwise (· < ·)) <| ck (m_19.length < 17592186044416) <| some (m_19, 0)
noncomputable def g_prizes_Next_j5 (v_18 : Nat) (m_19 : List Int) : Option ((List Int) × Int) :=
  if (((m_19.length : Nat) : Int) != ((v_18 : Nat) : Int)) = true then (g_prizes_Next_j6 m_19 true) else if (decide (((v_18 : Nat) : Int) < 2)) = true then (g_prizes_Next_j6 m_19 true) else g_prizes_Next_j6 m_19 (decide (((v_18 : Nat) : Int) > 24))
noncomputable def g_prizes_Next_l7 (p_16 : Nat) (l_17 : List Int) (p_15 : Nat) (v : Nat × Nat × (List Int)) : Option ((Nat × Nat × (List Int)) ⊕ ((List Int) × Int)) :=
  match v with | (v_26, v_27, m_28) => if (decide (((v_26 : Nat) : Int) < ((p_16 : Nat) : Int))) = true then (ck (0 ≤ (((v_26 : Nat) : Int) : Int) ∧ (((v_26 : Nat) : Int) : Int) < ((p_16 : Nat) : Int)) <| gn l_17 (p_15 + v_26) fun x_34 => ckI (x_34) <| ck (m_28.length < maxLen) <| ckI (((v_27 : Nat) : Int) + 1) <| ckI (((v_26 : Nat) : Int) + 1) <| some (.inl (v_26 + 1, v_27 + 1, (sput m_28 x_34)))) else up (g_prizes_Next_j5 v_27 m_28)
noncomputable def g_prizes_Next_j4 (v_12 : Nat) (m_13 : List Int) (p_15 : Nat) (p_16 : Nat) (l_17 : List Int) : Option ((List Int) × Int) :=
  loopO (g_prizes_Next_l7 p_16 l_17 p_15) (0, v_12, m_13)
noncomputable def g_prizes_Next_j9 (v_12 : Nat) (m_13 : List Int) (i_44 : Int) (l_45 : List Int) : Option ((List Int) × Int) :=
  sbp l_45.length (some i_44) none fun p_46 m_47 => ck (p_46 + m_47 ≤ l_45.length) <| sbp (l_45.take p_46 ++ List.replicate m_47 (0 : Int) ++ l_45.drop (p_46 + m_47)).length none (some i_44) fun p_50 m_51 => g_prizes_Next_j4 v_12 m_13 p_50 m_51 (l_45.take p_46 ++ List.replicate m_47 (0 : Int) ++ l_45.drop (p_46 + m_47))
noncomputable def g_prizes_Next_j11 (j_55 : Int) (r_7 : (List Int) × (List Int) × Int) (v_12 : Nat) (m_13 : List Int) (i_61 : Int) (l_62 : List Int) : Option ((Int × Int × (List Int)) ⊕ ((List Int) × Int)) :=
  ckI (j_55 + 1) <| some (.inl (i_61, (j_55 + 1), l_62))
noncomputable def g_prizes_Next_j12 (l_56 : List Int) (i_54 : Int) (j_55 : Int) (r_7 : (List Int) × (List Int) × Int) (v_12 : Nat) (m_13 : List Int) (x_64 : Int) (v_68 : Bool) : Option ((Int × Int × (List Int)) ⊕ ((List Int) × Int)) :=
  if (!(v_68)) = true then (gt l_56 i_54 fun x_70 => ckI (i_54 + 1) <| g_prizes_Next_j11 j_55 r_7 v_12 m_13 (i_54 + 1) (l_56.set (i_54).toNat x_64)) else g_prizes_Next_j11 j_55 r_7 v_12 m_13 i_54 l_56
noncomputable def g_prizes_Next_l10 (r_7 : (List Int) × (List Int) × Int) (v_12 : Nat) (m_13 : List Int) (v : Int × Int × (List Int)) : Option ((Int × Int × (List Int)) ⊕ ((List Int) × Int)) :=
  match v with | (i_54, j_55, l_56) => if (decide (j_55 < ((l_56.length : Nat) : Int))) = true then (gt l_56 j_55 fun x_64 => bd (g_slices_Contains_Lint_int r_7.1 x_64) fun r_75 => if (r_75) = true then (g_prizes_Next_j12 l_56 i_54 j_55 r_7 v_12 m_13 x_64 true) else bd (g_slices_Contains_Lint_int r_7.2.1 x_64) fun r_78 => g_prizes_Next_j12 l_56 i_54 j_55 r_7 v_12 m_13 x_64 (r_78)) else up (g_prizes_Next_j9 v_12 m_13 i_54 l_56)
noncomputable def g_prizes_Next_j8 (v_12 : Nat) (m_13 : List Int) (l_14 : List Int) (r_7 : (List Int) × (List Int) × Int) (v_42 : Int) : Option ((List Int) × Int) :=
  if (v_42 == (-1)) = true then (g_prizes_Next_j4 v_12 m_13 0 ((l_14.map elI).length) l_14) else ckI (v_42 + 1) <| loopO (g_prizes_Next_l10 r_7 v_12 m_13) (v_42, (v_42 + 1), l_14)
noncomputable def g_prizes_Next_j13 (v_12 : Nat) (m_13 : List Int) (l_14 : List Int) (r_7 : (List Int) × (List Int) × Int) : Option ((List Int) × Int) :=
  g_prizes_Next_j8 v_12 m_13 l_14 r_7 (-1)
noncomputable def g_prizes_Next_j15 (v_12 : Nat) (m_13 : List Int) (l_14 : List Int) (r_7 : (List Int) × (List Int) × Int) (v_80 : Nat) (v_87 : Bool) : Option ((Nat) ⊕ ((List Int) × Int)) :=
  if (v_87) = true then (up (g_prizes_Next_j8 v_12 m_13 l_14 r_7 ((v_80 : Nat) : Int))) else ckI (((v_80 : Nat) : Int) + 1) <| some (.inl (v_80 + 1))
noncomputable def g_prizes_Next_l14 (l_14 : List Int) (r_7 : (List Int) × (List Int) × Int) (v_12 : Nat) (m_13 : List Int) (v : Nat) : Option ((Nat) ⊕ ((List Int) × Int)) :=
  match v with | v_80 => if (decide (((v_80 : Nat) : Int) < ((l_14.length : Nat) : Int))) = true then (gn l_14 v_80 fun x_83 => bd (g_slices_Contains_Lint_int r_7.1 x_83) fun r_90 => if (r_90) = true then (g_prizes_Next_j15 v_12 m_13 l_14 r_7 v_80 true) else bd (g_slices_Contains_Lint_int r_7.2.1 x_83) fun r_93 => g_prizes_Next_j15 v_12 m_13 l_14 r_7 v_80 (r_93)) else up (g_prizes_Next_j13 v_12 m_13 l_14 r_7)
noncomputable def g_prizes_Next_j3 (r_7 : (List Int) × (List Int) × Int) (v_12 : Nat) (m_13 : List Int) (l_14 : List Int) : Option ((List Int) × Int) :=
  loopO (g_prizes_Next_l14 l_14 r_7 v_12 m_13) 0
noncomputable def g_prizes_Next_j16 (r_7 : (List Int) × (List Int) × Int) (v_12 : Nat) (m_13 : List Int) (l_95 : List Int) : Option ((List Int) × Int) :=
  ck (l_95.length < 4611686018427387904) <| g_prizes_Next_j3 r_7 v_12 m_13 (srtI l_95)
noncomputable def g_prizes_Next_l17 (r_4 : League × Bool) (r_7 : (List Int) × (List Int) × Int) (v_12 : Nat) (m_13 : List Int) (v : Nat × (List Int)) : Option ((Nat × (List Int)) ⊕ ((List Int) × Int)) :=
  match v with | (v_97, l_98) => if (decide (((v_97 : Nat) : Int) < ((r_4.1.table.l.length : Nat) : Int))) = true then (gn r_4.1.table.l v_97 fun x_102 => ck ((l_98.length + ([x_102.r.c]).length) * 8 ≤ 140737488355328) <| ckI (((v_97 : Nat) : Int) + 1) <| some (.inl (v_97 + 1, (l_98 ++ [x_102.r.c])))) else up (g_prizes_Next_j16 r_7 v_12 m_13 l_98)
noncomputable def g_prizes_Next_j2 (r_4 : League × Bool) (r_7 : (List Int) × (List Int) × Int) (v_12 : Nat) (m_13 : List Int) : Option ((List Int) × Int) :=
  loopO (g_prizes_Next_l17 r_4 r_7 v_12 m_13) (0, ([] : List Int))
noncomputable def g_prizes_Next_j19 (r_4 : League × Bool) (r_7 : (List Int) × (List Int) × Int) (v_116 : Nat) (m_117 : List Int) : Option ((List Int) × Int) :=
  g_prizes_Next_j2 r_4 r_7 v_116 m_117
noncomputable def g_prizes_Next_l20 (r_113 : (List Int) × (List Int) × Int) (r_4 : League × Bool) (r_7 : (List Int) × (List Int) × Int) (v : Nat × Nat × (List Int)) : Option ((Nat × Nat × (List Int)) ⊕ ((List Int) × Int)) :=
  match v with | (v_118, v_119, m_120) => if (decide (((v_118 : Nat) : Int) < ((r_113.1.length : Nat) : Int))) = true then (gn r_113.1 v_118 fun x_125 => ckI (x_125) <| ck (m_120.length < maxLen) <| ckI (((v_119 : Nat) : Int) + 1) <| ckI (((v_118 : Nat) : Int) + 1) <| some (.inl (v_118 + 1, v_119 + 1, (sput m_120 x_125)))) else up (g_prizes_Next_j19 r_4 r_7 v_119 m_120)
noncomputable def g_prizes_Next_j18 (r_109 : League × Bool) (r_4 : League × Bool) (r_7 : (List Int) × (List Int) × Int) (v_10 : Nat) (m_11 : List Int) (v_111 : Bool) : Option ((List Int) × Int) :=
  if (v_111) = true then (some (([] : List Int), 420)) else bd (g_prizes_Moves r_109.1.table r_109.1.scheme) fun r_113 => if (r_113.2.2 != 0) = true then (some (([] : List Int), r_113.2.2)) else loopO (g_prizes_Next_l20 r_113 r_4 r_7) (0, v_10, m_11)
noncomputable def g_prizes_Next_j1 (r_4 : League × Bool) (tables_1 : List Tab) (schemes_2 : List Sch) (r_7 : (List Int) × (List Int) × Int) (comp_3 : Int) (v_10 : Nat) (m_11 : List Int) : Option ((List Int) × Int) :=
  if (r_4.1.scheme.be != (-1)) = true then (bd (g_prizes_of tables_1 schemes_2 r_4.1.scheme.be) fun r_109 => if (!(r_109.2)) = true then (g_prizes_Next_j18 r_109 r_4 r_7 v_10 m_11 true) else if (r_109.1.table.s != r_4.1.table.s) = true then (g_prizes_Next_j18 r_109 r_4 r_7 v_10 m_11 true) else g_prizes_Next_j18 r_109 r_4 r_7 v_10 m_11 (r_109.1.scheme.ab != comp_3)) else g_prizes_Next_j2 r_4 r_7 v_10 m_11
noncomputable def g_prizes_Next_j22 (r_4 : League × Bool) (tables_1 : List Tab) (schemes_2 : List Sch) (r_7 : (List Int) × (List Int) × Int) (comp_3 : Int) (v_143 : Nat) (m_144 : List Int) : Option ((List Int) × Int) :=
  g_prizes_Next_j1 r_4 tables_1 schemes_2 r_7 comp_3 v_143 m_144
noncomputable def g_prizes_Next_l23 (r_140 : (List Int) × (List Int) × Int) (r_4 : League × Bool) (tables_1 : List Tab) (schemes_2 : List Sch) (r_7 : (List Int) × (List Int) × Int) (comp_3 : Int) (v : Nat × Nat × (List Int)) : Option ((Nat × Nat × (List Int)) ⊕ ((List Int) × Int)) :=
  match v with | (v_145, v_146, m_147) => if (decide (((v_145 : Nat) : Int) < ((r_140.2.1.length : Nat) : Int))) = true then (gn r_140.2.1 v_145 fun x_152 => ckI (x_152) <| ck (m_147.length < maxLen) <| ckI (((v_146 : Nat) : Int) + 1) <| ckI (((v_145 : Nat) : Int) + 1) <| some (.inl (v_145 + 1, v_146 + 1, (sput m_147 x_152)))) else up (g_prizes_Next_j22 r_4 tables_1 schemes_2 r_7 comp_3 v_146 m_147)
noncomputable def g_prizes_Next_j21 (r_136 : League × Bool) (r_4 : League × Bool) (tables_1 : List Tab) (schemes_2 : List Sch) (r_7 : (List Int) × (List Int) × Int) (comp_3 : Int) (v_138 : Bool) : Option ((List Int) × Int) :=
  if (v_138) = true then (some (([] : List Int), 420)) else bd (g_prizes_Moves r_136.1.table r_136.1.scheme) fun r_140 => if (r_140.2.2 != 0) = true then (some (([] : List Int), r_140.2.2)) else loopO (g_prizes_Next_l23 r_140 r_4 tables_1 schemes_2 r_7 comp_3) (0, 0, ([] : List Int))
noncomputable def g_prizes_Next (tables_1 : List Tab) (schemes_2 : List Sch) (comp_3 : Int) : Option ((List Int) × Int) :=
  bd (g_prizes_of tables_1 schemes_2 comp_3) fun r_4 => if (!(r_4.2)) = true then (some (([] : List Int), 420)) else bd (g_prizes_Moves r_4.1.table r_4.1.scheme) fun r_7 => if (r_7.2.2 != 0) = true then (some (([] : List Int), r_7.2.2)) else if (r_4.1.scheme.ab != (-1)) = true then (bd (g_prizes_of tables_1 schemes_2 r_4.1.scheme.ab) fun r_136 => if (!(r_136.2)) = true then (g_prizes_Next_j21 r_136 r_4 tables_1 schemes_2 r_7 comp_3 true) else if (r_136.1.table.s != r_4.1.table.s) = true then (g_prizes_Next_j21 r_136 r_4 tables_1 schemes_2 r_7 comp_3 true) else g_prizes_Next_j21 r_136 r_4 tables_1 schemes_2 r_7 comp_3 (r_136.1.scheme.be != comp_3)) else g_prizes_Next_j1 r_4 tables_1 schemes_2 r_7 comp_3 0 ([] : List Int)
noncomputable def g_ref42_Same_j1 : Option (Bool) :=
  some true
noncomputable def g_ref42_Same_l2 (a_1 : List Pay) (b_2 : List Pay) (v : Nat) : Option ((Nat) ⊕ (Bool)) :=
  match v with | i_4 => if (decide (((i_4 : Nat) : Int) < ((a_1.length : Nat) : Int))) = true then (gn a_1 i_4 fun x_7 => gn b_2 i_4 fun x_11 => if (!((x_7.c == x_11.c) && ((x_7.a == x_11.a) && true))) = true then (up (some false)) else ckI (((i_4 : Nat) : Int) + 1) <| some (.inl (i_4 + 1))) else up (g_ref42_Same_j1)
noncomputable def g_ref42_Same (a_1 : List Pay) (b_2 : List Pay) : Option (Bool) :=
  if (((a_1.length : Nat) : Int) != ((b_2.length : Nat) : Int)) = true then (some false) else loopO (g_ref42_Same_l2 a_1 b_2) 0
noncomputable def g_ref42_SameInts_j1 : Option (Bool) :=
  some true
noncomputable def g_ref42_SameInts_l2 (a_1 : List Int) (b_2 : List Int) (v : Nat) : Option ((Nat) ⊕ (Bool)) :=
  match v with | i_4 => if (decide (((i_4 : Nat) : Int) < ((a_1.length : Nat) : Int))) = true then (gn a_1 i_4 fun x_7 => gn b_2 i_4 fun x_11 => if (x_7 != x_11) = true then (up (some false)) else ckI (((i_4 : Nat) : Int) + 1) <| some (.inl (i_4 + 1))) else up (g_ref42_SameInts_j1)
noncomputable def g_ref42_SameInts (a_1 : List Int) (b_2 : List Int) : Option (Bool) :=
  if (((a_1.length : Nat) : Int) != ((b_2.length : Nat) : Int)) = true then (some false) else loopO (g_ref42_SameInts_l2 a_1 b_2) 0
noncomputable def g_law42_sane_j1 (r_3 : (List Pay) × Int) (r_5 : (List Int) × Int) (v_13 : Bool) : Option (Bool) :=
  if (v_13) = true then (some false) else bd (g_ref42_Same r_3.1 ([(⟨4, 51⟩ : Pay), (⟨9, 50⟩ : Pay)])) fun r_15 => if (r_15) = true then (bd (g_ref42_SameInts r_5.1 ([(4 : Int), (9 : Int)])) fun r_18 => if (r_18) = true then (bd (g_prizes_Check (⟨2, [(⟨1, 2, 101⟩ : Prize)], 0, 0, (-1), (-1)⟩ : Sch)) fun r_21 => if (r_21 == 0) = true then (bd (g_prizes_Check (⟨2, [(⟨1, 2, 101⟩ : Prize), (⟨2, 2, 1⟩ : Prize)], 0, 0, (-1), (-1)⟩ : Sch)) fun r_24 => if (r_24 == 420) = true then (bd (g_prizes_Check (⟨0, ([] : List Prize), 0, 0, 0, 0⟩ : Sch)) fun r_27 => some (r_27 == 420)) else some false) else some false) else some false) else some false
noncomputable def g_law42_sane : Option (Bool) :=
  bd (g_law42_level 2 ([(4 : Int), (9 : Int)])) fun r_1 => bd (g_prizes_Prizes r_1 (⟨2, [(⟨1, 2, 101⟩ : Prize)], 0, 0, (-1), (-1)⟩ : Sch)) fun r_3 => bd (g_prizes_Next ([r_1]) ([(⟨2, [(⟨1, 2, 101⟩ : Prize)], 0, 0, (-1), (-1)⟩ : Sch)]) 2) fun r_5 => bd (g_prizes_Next ([] : List Tab) ([] : List Sch) 0) fun r_7 => bd (g_prizes_Prizes (⟨0, 0, ([] : List Place)⟩ : Tab) (⟨2, [(⟨1, 2, 101⟩ : Prize)], 0, 0, (-1), (-1)⟩ : Sch)) fun r_9 => bd (g_prizes_Moves r_1 (⟨2, [(⟨1, 2, 101⟩ : Prize)], 3, 0, 1, (-1)⟩ : Sch)) fun r_11 => if (r_3.2 != 0) = true then (g_law42_sane_j1 r_3 r_5 true) else if (r_5.2 != 0) = true then (g_law42_sane_j1 r_3 r_5 true) else if (r_7.2 != 420) = true then (g_law42_sane_j1 r_3 r_5 true) else bd (g_table_Check (⟨0, 0, ([] : List Place)⟩ : Tab)) fun r_32 => if (r_9.2 != r_32) = true then (g_law42_sane_j1 r_3 r_5 true) else if (r_9.2 == 0) = true then (g_law42_sane_j1 r_3 r_5 true) else g_law42_sane_j1 r_3 r_5 (r_11.2.2 != 420)
noncomputable def g_law42_one (t_1 : Tab) (s_2 : Sch) : Option ((List Tab) × (List Sch)) :=
  some ([t_1], [s_2])
noncomputable def g_ref42_Few_j3 : Option (Bool) :=
  some true
noncomputable def g_ref42_Few_l4 (schemes_2 : List Sch) (v : Nat) : Option ((Nat) ⊕ (Bool)) :=
  match v with | i_5 => if (decide (((i_5 : Nat) : Int) < ((schemes_2.length : Nat) : Int))) = true then (gn schemes_2 i_5 fun x_8 => if (decide (((x_8.p.length : Nat) : Int) > 30)) = true then (up (some false)) else ckI (((i_5 : Nat) : Int) + 1) <| some (.inl (i_5 + 1))) else up (g_ref42_Few_j3)
noncomputable def g_ref42_Few_j2 (schemes_2 : List Sch) : Option (Bool) :=
  loopO (g_ref42_Few_l4 schemes_2) 0
noncomputable def g_ref42_Few_l5 (tables_1 : List Tab) (schemes_2 : List Sch) (v : Nat) : Option ((Nat) ⊕ (Bool)) :=
  match v with | i_14 => if (decide (((i_14 : Nat) : Int) < ((tables_1.length : Nat) : Int))) = true then (gn tables_1 i_14 fun x_17 => if (decide (((x_17.l.length : Nat) : Int) > 30)) = true then (up (some false)) else ckI (((i_14 : Nat) : Int) + 1) <| some (.inl (i_14 + 1))) else up (g_ref42_Few_j2 schemes_2)
noncomputable def g_ref42_Few_j1 (tables_1 : List Tab) (schemes_2 : List Sch) (v_3 : Bool) : Option (Bool) :=
  if (v_3) = true then (some false) else loopO (g_ref42_Few_l5 tables_1 schemes_2) 0
noncomputable def g_ref42_Few (tables_1 : List Tab) (schemes_2 : List Sch) : Option (Bool) :=
  if (decide (((tables_1.length : Nat) : Int) > 5)) = true then (g_ref42_Few_j1 tables_1 schemes_2 true) else g_ref42_Few_j1 tables_1 schemes_2 (decide (((schemes_2.length : Nat) : Int) > 5))
noncomputable def g_ref42_ones_j1 (l_2 : List Int) : Option (List Int) :=
  some l_2
noncomputable def g_ref42_ones_l2 (n_1 : Int) (v : Nat × (List Int)) : Option ((Nat × (List Int)) ⊕ (List Int)) :=
  match v with | (i_3, l_4) => if (decide (((i_3 : Nat) : Int) < n_1)) = true then (ck ((l_4.length + ([(1 : Int)]).length) * 8 ≤ 140737488355328) <| ckI (((i_3 : Nat) : Int) + 1) <| some (.inl (i_3 + 1, (l_4 ++ [(1 : Int)])))) else up (g_ref42_ones_j1 l_4)
noncomputable def g_ref42_ones (n_1 : Int) : Option (List Int) :=
  loopO (g_ref42_ones_l2 n_1) (0, ([] : List Int))
noncomputable def g_ref42_Part_j1 : Option (Int) :=
  some 0
noncomputable def g_ref42_Part_j3 (x_6 : Prize) (rank_2 : Int) (i_3 : Nat) (s_1 : Sch) (v_10 : Bool) : Option ((Nat) ⊕ (Int)) :=
  if (v_10) = true then (ckI (x_6.t - x_6.f) <| ckI ((x_6.t - x_6.f) + 1) <| bd (g_ref42_ones ((x_6.t - x_6.f) + 1)) fun r_14 => bd (g_ref05_Split x_6.a r_14) fun r_16 => ckI (rank_2 - x_6.f) <| gt r_16.1 (rank_2 - x_6.f) fun x_19 => up (some x_19)) else ckI (((i_3 : Nat) : Int) + 1) <| some (.inl (i_3 + 1))
noncomputable def g_ref42_Part_l2 (s_1 : Sch) (rank_2 : Int) (v : Nat) : Option ((Nat) ⊕ (Int)) :=
  match v with | i_3 => if (decide (((i_3 : Nat) : Int) < ((s_1.p.length : Nat) : Int))) = true then (gn s_1.p i_3 fun x_6 => if (decide (x_6.f ≤ rank_2)) = true then (g_ref42_Part_j3 x_6 rank_2 i_3 s_1 (decide (rank_2 ≤ x_6.t))) else g_ref42_Part_j3 x_6 rank_2 i_3 s_1 false) else up (g_ref42_Part_j1)
noncomputable def g_ref42_Part (s_1 : Sch) (rank_2 : Int) : Option (Int) :=
  loopO (g_ref42_Part_l2 s_1 rank_2) 0
noncomputable def g_money_Check_j1 (v_2 : Bool) : Option (Int) :=
  if (v_2) = true then (some 50) else some 0
noncomputable def g_money_Check (n_1 : Int) : Option (Int) :=
  if (decide (n_1 > 1125899906842624)) = true then (g_money_Check_j1 true) else g_money_Check_j1 (decide (n_1 < (-1125899906842624)))
noncomputable def g_money_Sum_j1 (n_2 : Int) : Option (Int × Int) :=
  some (n_2, 0)
noncomputable def g_money_Sum_j3 (n_3 : Int) (x_8 : Int) (v_4 : Nat) (l_1 : List Int) (v_12 : Bool) : Option ((Int × Nat) ⊕ (Int × Int)) :=
  if (v_12) = true then (up (some (0, 50))) else ckI (n_3 + x_8) <| ckI (((v_4 : Nat) : Int) + 1) <| some (.inl ((n_3 + x_8), v_4 + 1))
noncomputable def g_money_Sum_l2 (l_1 : List Int) (v : Int × Nat) : Option ((Int × Nat) ⊕ (Int × Int)) :=
  match v with | (n_3, v_4) => if (decide (((v_4 : Nat) : Int) < ((l_1.length : Nat) : Int))) = true then (gn l_1 v_4 fun x_8 => bd (g_money_Check x_8) fun r_16 => if (r_16 != 0) = true then (g_money_Sum_j3 n_3 x_8 v_4 l_1 true) else ckI (n_3 + x_8) <| bd (g_money_Check (n_3 + x_8)) fun r_20 => g_money_Sum_j3 n_3 x_8 v_4 l_1 (r_20 != 0)) else up (g_money_Sum_j1 n_3)
noncomputable def g_money_Sum (l_1 : List Int) : Option (Int × Int) :=
  loopO (g_money_Sum_l2 l_1) (0, 0)
noncomputable def g_law42_PrizesSum_j3 (l_14 : List Int) (l_16 : List Int) (within_15 : Bool) (parts_17 : Int) : Option (Bool) :=
  bd (g_money_Sum l_14) fun r_18 => bd (g_money_Sum l_16) fun r_20 => if (r_18.2 == 0) = true then (if (r_20.2 == 0) = true then (if (r_18.1 == parts_17) = true then (if (!(within_15)) = true then (some true) else some (r_18.1 == r_20.1)) else some false) else some false) else some false
noncomputable def g_law42_PrizesSum_l4 (t_1 : Tab) (s_2 : Sch) (l_14 : List Int) (l_16 : List Int) (within_15 : Bool) (v : Int × Nat) : Option ((Int × Nat) ⊕ (Bool)) :=
  match v with | (parts_26, r_27) => if (decide (((r_27 : Nat) : Int) ≤ ((t_1.l.length : Nat) : Int))) = true then (bd (g_ref42_Part s_2 ((r_27 : Nat) : Int)) fun r_31 => ckI (parts_26 + r_31) <| ckI (((r_27 : Nat) : Int) + 1) <| some (.inl ((parts_26 + r_31), r_27 + 1))) else up (g_law42_PrizesSum_j3 l_14 l_16 within_15 parts_26)
noncomputable def g_law42_PrizesSum_j2 (t_1 : Tab) (s_2 : Sch) (l_14 : List Int) (within_15 : Bool) (l_16 : List Int) : Option (Bool) :=
  loopO (g_law42_PrizesSum_l4 t_1 s_2 l_14 l_16 within_15) (0, 1)
noncomputable def g_law42_PrizesSum_j6 (i_36 : Nat) (t_1 : Tab) (s_2 : Sch) (l_14 : List Int) (within_42 : Bool) (l_43 : List Int) : Option ((Bool × Nat × (List Int)) ⊕ (Bool)) :=
  ckI (((i_36 : Nat) : Int) + 1) <| some (.inl ((within_42), i_36 + 1, l_43))
noncomputable def g_law42_PrizesSum_l5 (s_2 : Sch) (t_1 : Tab) (l_14 : List Int) (v : Bool × Nat × (List Int)) : Option ((Bool × Nat × (List Int)) ⊕ (Bool)) :=
  match v with | (within_35, i_36, l_37) => if (decide (((i_36 : Nat) : Int) < ((s_2.p.length : Nat) : Int))) = true then (gn s_2.p i_36 fun x_45 => ck ((l_37.length + ([x_45.a]).length) * 8 ≤ 140737488355328) <| if (within_35) = true then (g_law42_PrizesSum_j6 i_36 t_1 s_2 l_14 (decide (x_45.t ≤ ((t_1.l.length : Nat) : Int))) (l_37 ++ [x_45.a])) else g_law42_PrizesSum_j6 i_36 t_1 s_2 l_14 false (l_37 ++ [x_45.a])) else up (g_law42_PrizesSum_j2 t_1 s_2 l_14 (within_35) l_37)
noncomputable def g_law42_PrizesSum_j1 (s_2 : Sch) (t_1 : Tab) (l_14 : List Int) : Option (Bool) :=
  loopO (g_law42_PrizesSum_l5 s_2 t_1 l_14) (true, 0, ([] : List Int))
noncomputable def g_law42_PrizesSum_j8 (r_11 : (List Pay) × Int) (i_51 : Nat) (l_52 : List Int) (t_1 : Tab) (s_2 : Sch) (v_56 : Bool) : Option ((Nat × (List Int)) ⊕ (Bool)) :=
  if (v_56) = true then (up (some false)) else gn r_11.1 i_51 fun x_58 => ck ((l_52.length + ([x_58.a]).length) * 8 ≤ 140737488355328) <| ckI (((i_51 : Nat) : Int) + 1) <| some (.inl (i_51 + 1, (l_52 ++ [x_58.a])))
noncomputable def g_law42_PrizesSum_l7 (r_11 : (List Pay) × Int) (t_1 : Tab) (s_2 : Sch) (v : Nat × (List Int)) : Option ((Nat × (List Int)) ⊕ (Bool)) :=
  match v with | (i_51, l_52) => if (decide (((i_51 : Nat) : Int) < ((r_11.1.length : Nat) : Int))) = true then (gn r_11.1 i_51 fun x_64 => if (decide (x_64.a ≤ 0)) = true then (g_law42_PrizesSum_j8 r_11 i_51 l_52 t_1 s_2 true) else if (decide (((i_51 : Nat) : Int) > 0)) = true then (ckI (((i_51 : Nat) : Int) - 1) <| gt r_11.1 (((i_51 : Nat) : Int) - 1) fun x_71 => g_law42_PrizesSum_j8 r_11 i_51 l_52 t_1 s_2 (decide (x_71.c ≥ x_64.c))) else g_law42_PrizesSum_j8 r_11 i_51 l_52 t_1 s_2 false) else up (g_law42_PrizesSum_j1 s_2 t_1 l_52)
noncomputable def g_law42_PrizesSum (t_1 : Tab) (s_2 : Sch) : Option (Bool) :=
  bd (g_law42_sane) fun r_3 => if (!(r_3)) = true then (some false) else bd (g_law42_one t_1 s_2) fun r_6 => bd (g_ref42_Few r_6.1 r_6.2) fun r_8 => if (!(r_8)) = true then (some true) else bd (g_prizes_Prizes t_1 s_2) fun r_11 => if (r_11.2 != 0) = true then (some (((r_11.1.length : Nat) : Int) == 0)) else loopO (g_law42_PrizesSum_l7 r_11 t_1 s_2) (0, ([] : List Int))
noncomputable def g_law42_paid_j1 : Option (Int) :=
  some 0
noncomputable def g_law42_paid_l2 (l_1 : List Pay) (club_2 : Int) (v : Nat) : Option ((Nat) ⊕ (Int)) :=
  match v with | i_3 => if (decide (((i_3 : Nat) : Int) < ((l_1.length : Nat) : Int))) = true then (gn l_1 i_3 fun x_6 => if (x_6.c == club_2) = true then (up (some x_6.a)) else ckI (((i_3 : Nat) : Int) + 1) <| some (.inl (i_3 + 1))) else up (g_law42_paid_j1)
noncomputable def g_law42_paid (l_1 : List Pay) (club_2 : Int) : Option (Int) :=
  loopO (g_law42_paid_l2 l_1 club_2) 0
noncomputable def g_law42_PrizesTied_j1 (r_11 : (List Pay) × Int) (many_14 : Int) : Option (Bool) :=
  some (many_14 == ((r_11.1.length : Nat) : Int))
noncomputable def g_law42_PrizesTied_j3 (i_16 : Nat) (r_11 : (List Pay) × Int) (t_1 : Tab) (many_20 : Int) : Option ((Int × Nat) ⊕ (Bool)) :=
  ckI (((i_16 : Nat) : Int) + 1) <| some (.inl (many_20, i_16 + 1))
noncomputable def g_law42_PrizesTied_j6 (i_16 : Nat) (r_11 : (List Pay) × Int) (t_1 : Tab) (many_28 : Int) (v_38 : Bool) : Option ((Int × Nat) ⊕ (Bool)) :=
  if (v_38) = true then (up (some false)) else g_law42_PrizesTied_j3 i_16 r_11 t_1 many_28
noncomputable def g_law42_PrizesTied_j5 (i_16 : Nat) (r_11 : (List Pay) × Int) (t_1 : Tab) (many_28 : Int) (r_26 : Int) (v_29 : Bool) : Option ((Int × Nat) ⊕ (Bool)) :=
  if (v_29) = true then (g_law42_PrizesTied_j3 i_16 r_11 t_1 many_28) else ckI (((i_16 : Nat) : Int) - 1) <| gt t_1.l (((i_16 : Nat) : Int) - 1) fun x_32 => bd (g_law42_paid r_11.1 x_32.r.c) fun r_36 => if (decide (r_36 < r_26)) = true then (g_law42_PrizesTied_j6 i_16 r_11 t_1 many_28 true) else ckI (r_26 + 1) <| g_law42_PrizesTied_j6 i_16 r_11 t_1 many_28 (decide (r_36 > (r_26 + 1)))
noncomputable def g_law42_PrizesTied_j4 (i_16 : Nat) (r_11 : (List Pay) × Int) (t_1 : Tab) (r_26 : Int) (x_22 : Place) (many_28 : Int) : Option ((Int × Nat) ⊕ (Bool)) :=
  if (((i_16 : Nat) : Int) == 0) = true then (g_law42_PrizesTied_j5 i_16 r_11 t_1 many_28 r_26 true) else ckI (((i_16 : Nat) : Int) - 1) <| gt t_1.l (((i_16 : Nat) : Int) - 1) fun x_44 => g_law42_PrizesTied_j5 i_16 r_11 t_1 many_28 r_26 (x_22.k != x_44.k)
noncomputable def g_law42_PrizesTied_l2 (t_1 : Tab) (r_11 : (List Pay) × Int) (v : Int × Nat) : Option ((Int × Nat) ⊕ (Bool)) :=
  match v with | (many_15, i_16) => if (decide (((i_16 : Nat) : Int) < ((t_1.l.length : Nat) : Int))) = true then (gn t_1.l i_16 fun x_22 => bd (g_law42_paid r_11.1 x_22.r.c) fun r_26 => if (decide (r_26 > 0)) = true then (ckI (many_15 + 1) <| g_law42_PrizesTied_j4 i_16 r_11 t_1 r_26 x_22 (many_15 + 1)) else g_law42_PrizesTied_j4 i_16 r_11 t_1 r_26 x_22 many_15) else up (g_law42_PrizesTied_j1 r_11 many_15)
noncomputable def g_law42_PrizesTied (t_1 : Tab) (s_2 : Sch) : Option (Bool) :=
  bd (g_law42_sane) fun r_3 => if (!(r_3)) = true then (some false) else bd (g_law42_one t_1 s_2) fun r_6 => bd (g_ref42_Few r_6.1 r_6.2) fun r_8 => if (!(r_8)) = true then (some true) else bd (g_prizes_Prizes t_1 s_2) fun r_11 => if (r_11.2 != 0) = true then (some true) else loopO (g_law42_PrizesTied_l2 t_1 r_11) (0, 0)
noncomputable def g_law42_index_j1 : Option (Int) :=
  some (-1)
noncomputable def g_law42_index_l2 (t_1 : Tab) (club_2 : Int) (v : Nat) : Option ((Nat) ⊕ (Int)) :=
  match v with | i_3 => if (decide (((i_3 : Nat) : Int) < ((t_1.l.length : Nat) : Int))) = true then (gn t_1.l i_3 fun x_6 => if (x_6.r.c == club_2) = true then (up (some ((i_3 : Nat) : Int))) else ckI (((i_3 : Nat) : Int) + 1) <| some (.inl (i_3 + 1))) else up (g_law42_index_j1)
noncomputable def g_law42_index (t_1 : Tab) (club_2 : Int) : Option (Int) :=
  loopO (g_law42_index_l2 t_1 club_2) 0
noncomputable def g_law42_PrizesMoves_j4 : Option (Bool) :=
  some true
noncomputable def g_law42_PrizesMoves_l5 (t_1 : Tab) (m_18 : List (Int × Int)) (v : Nat) : Option ((Nat) ⊕ (Bool)) :=
  match v with | i_19 => ckI (((i_19 : Nat) : Int) + 1) <| if (decide (((i_19 + 1 : Nat) : Int) < ((t_1.l.length : Nat) : Int))) = true then (gn t_1.l i_19 fun x_23 => ckI (x_23.r.c) <| gn t_1.l (i_19 + 1) fun x_28 => ckI (x_28.r.c) <| if (decide ((mget m_18 x_23.r.c) < (mget m_18 x_28.r.c))) = true then (up (some false)) else some (.inl (i_19 + 1))) else up (g_law42_PrizesMoves_j4)
noncomputable def g_law42_PrizesMoves_j3 (t_1 : Tab) (m_18 : List (Int × Int)) : Option (Bool) :=
  loopO (g_law42_PrizesMoves_l5 t_1 m_18) 0
noncomputable def g_law42_PrizesMoves_j7 (r_11 : (List Int) × (List Int) × Int) (i_34 : Nat) (m_35 : List (Int × Int)) (t_1 : Tab) (v_39 : Bool) : Option ((Nat × (List (Int × Int))) ⊕ (Bool)) :=
  if (v_39) = true then (up (some false)) else gn r_11.2.1 i_34 fun x_41 => ckI (x_41) <| ckI ((-1)) <| ck (m_35.length < maxLen) <| ckI (((i_34 : Nat) : Int) + 1) <| some (.inl (i_34 + 1, (mput m_35 x_41 (-1))))
noncomputable def g_law42_PrizesMoves_l6 (r_11 : (List Int) × (List Int) × Int) (t_1 : Tab) (v : Nat × (List (Int × Int))) : Option ((Nat × (List (Int × Int))) ⊕ (Bool)) :=
  match v with | (i_34, m_35) => if (decide (((i_34 : Nat) : Int) < ((r_11.2.1.length : Nat) : Int))) = true then (gn r_11.2.1 i_34 fun x_49 => bd (g_law42_index t_1 x_49) fun r_53 => if (decide (r_53 < 0)) = true then (g_law42_PrizesMoves_j7 r_11 i_34 m_35 t_1 true) else ckI (x_49) <| if ((mget m_35 x_49) != 0) = true then (g_law42_PrizesMoves_j7 r_11 i_34 m_35 t_1 true) else if (decide (((i_34 : Nat) : Int) > 0)) = true then (ckI (((i_34 : Nat) : Int) - 1) <| gt r_11.2.1 (((i_34 : Nat) : Int) - 1) fun x_60 => g_law42_PrizesMoves_j7 r_11 i_34 m_35 t_1 (decide (x_60 ≥ x_49))) else g_law42_PrizesMoves_j7 r_11 i_34 m_35 t_1 false) else up (g_law42_PrizesMoves_j3 t_1 m_35)
noncomputable def g_law42_PrizesMoves_j2 (r_11 : (List Int) × (List Int) × Int) (t_1 : Tab) (m_17 : List (Int × Int)) : Option (Bool) :=
  loopO (g_law42_PrizesMoves_l6 r_11 t_1) (0, m_17)
noncomputable def g_law42_PrizesMoves_j9 (r_11 : (List Int) × (List Int) × Int) (i_64 : Nat) (m_65 : List (Int × Int)) (t_1 : Tab) (v_69 : Bool) : Option ((Nat × (List (Int × Int))) ⊕ (Bool)) :=
  if (v_69) = true then (up (some false)) else gn r_11.1 i_64 fun x_71 => ckI (x_71) <| ckI (1) <| ck (m_65.length < maxLen) <| ckI (((i_64 : Nat) : Int) + 1) <| some (.inl (i_64 + 1, (mput m_65 x_71 1)))
noncomputable def g_law42_PrizesMoves_l8 (r_11 : (List Int) × (List Int) × Int) (t_1 : Tab) (v : Nat × (List (Int × Int))) : Option ((Nat × (List (Int × Int))) ⊕ (Bool)) :=
  match v with | (i_64, m_65) => if (decide (((i_64 : Nat) : Int) < ((r_11.1.length : Nat) : Int))) = true then (gn r_11.1 i_64 fun x_79 => bd (g_law42_index t_1 x_79) fun r_83 => if (decide (r_83 < 0)) = true then (g_law42_PrizesMoves_j9 r_11 i_64 m_65 t_1 true) else if (decide (((i_64 : Nat) : Int) > 0)) = true then (ckI (((i_64 : Nat) : Int) - 1) <| gt r_11.1 (((i_64 : Nat) : Int) - 1) fun x_88 => g_law42_PrizesMoves_j9 r_11 i_64 m_65 t_1 (decide (x_88 ≥ x_79))) else g_law42_PrizesMoves_j9 r_11 i_64 m_65 t_1 false) else up (g_law42_PrizesMoves_j2 r_11 t_1 m_65)
noncomputable def g_law42_PrizesMoves_j1 (r_11 : (List Int) × (List Int) × Int) (t_1 : Tab) (v_15 : Bool) : Option (Bool) :=
  if (v_15) = true then (some false) else loopO (g_law42_PrizesMoves_l8 r_11 t_1) (0, ([] : List (Int × Int)))
noncomputable def g_law42_PrizesMoves (t_1 : Tab) (s_2 : Sch) : Option (Bool) :=
  bd (g_law42_sane) fun r_3 => if (!(r_3)) = true then (some false) else bd (g_law42_one t_1 s_2) fun r_6 => bd (g_ref42_Few r_6.1 r_6.2) fun r_8 => if (!(r_8)) = true then (some true) else bd (g_prizes_Moves t_1 s_2) fun r_11 => if (r_11.2.2 != 0) = true then (ckI (((r_11.1.length : Nat) : Int) + ((r_11.2.1.length : Nat) : Int)) <| some (((r_11.1.length + r_11.2.1.length : Nat) : Int) == 0)) else if (((r_11.1.length : Nat) : Int) != s_2.u) = true then (g_law42_PrizesMoves_j1 r_11 t_1 true) else g_law42_PrizesMoves_j1 r_11 t_1 (((r_11.2.1.length : Nat) : Int) != s_2.d)
end Go.Proofs.YtoiiblkncbnlaaaGreat

/-
  How the arguments of the laws read.
-/
namespace Go.Proofs.YtoiiblkncbnlaaaGreat
open Go.DL Go.ChangeShapes Go.WideShapes Go.ChangeAt Go.RowKit
set_option maxRecDepth 100000
set_option linter.unusedVariables false
set_option linter.unusedSimpArgs false
theorem Tryz.own : ownKnob Tryz.prog.godebug = none := by kernel_rfl
theorem Tryz.laidOut : laidOutB Tryz.prog = true := by kernel_rfl
theorem Dec.string {P : Program} {t : TypeId} (ht : P.underlying t = some .string) : Dec P t (fun b : List UInt8 => [.str b]) (fun _ => True) := by
  intro H enc w fuel cs d ps hd
  obtain ⟨b, rfl, _⟩ := DataW.trod_string ht hd
  exact ⟨b.data.toList, rfl, one_get (.str _), fun _ => trivial⟩
theorem und3 : Tryz.prog.underlying 3 = some (.int .i64) := by kernel_rfl
theorem d_3 : Dec Tryz.prog 3 (fun n : Int => [.int .i64 n]) (fun n => (Lit.int .i64 n).wf = true) := Dec.int und3
theorem und9 : Tryz.prog.underlying 9 = some .string := by kernel_rfl
theorem d_9 : Dec Tryz.prog 9 (fun b : List UInt8 => [.str b]) (fun _ => True) := Dec.string und9
theorem d_50 : Dec Tryz.prog 50 (fun x : Row => [(I x.c), (I x.pl), (I x.wo), (I x.dr), (I x.lo), (I x.fo), (I x.ag), (I x.af), (I x.aw), (I x.ca), (I x.po)]) (fun _ => True) :=
  Dec.map (Dec.struct 11 (by kernel_rfl) (by kernel_rfl) (DecFs.cons 1 (by kernel_rfl) d_3 (fun _ => rfl) (DecFs.cons 1 (by kernel_rfl) d_3 (fun _ => rfl) (DecFs.cons 1 (by kernel_rfl) d_3 (fun _ => rfl) (DecFs.cons 1 (by kernel_rfl) d_3 (fun _ => rfl) (DecFs.cons 1 (by kernel_rfl) d_3 (fun _ => rfl) (DecFs.cons 1 (by kernel_rfl) d_3 (fun _ => rfl) (DecFs.cons 1 (by kernel_rfl) d_3 (fun _ => rfl) (DecFs.cons 1 (by kernel_rfl) d_3 (fun _ => rfl) (DecFs.cons 1 (by kernel_rfl) d_3 (fun _ => rfl) (DecFs.cons 1 (by kernel_rfl) d_3 (fun _ => rfl) (DecFs.cons 1 (by kernel_rfl) d_3 (fun _ => rfl) (DecFs.nil _)))))))))))) (fun _ => rfl))
    (fun q => ⟨q.1, q.2.1, q.2.2.1, q.2.2.2.1, q.2.2.2.2.1, q.2.2.2.2.2.1, q.2.2.2.2.2.2.1, q.2.2.2.2.2.2.2.1, q.2.2.2.2.2.2.2.2.1, q.2.2.2.2.2.2.2.2.2.1, q.2.2.2.2.2.2.2.2.2.2.1⟩) _ _ (fun _ => rfl) (fun _ _ => trivial)
theorem d_52 : Dec Tryz.prog 52 (fun x : Place => [(I x.k), (I x.b), (.str x.z), (I x.r.c), (I x.r.pl), (I x.r.wo), (I x.r.dr), (I x.r.lo), (I x.r.fo), (I x.r.ag), (I x.r.af), (I x.r.aw), (I x.r.ca), (I x.r.po)]) (fun _ => True) :=
  Dec.map (Dec.struct 14 (by kernel_rfl) (by kernel_rfl) (DecFs.cons 1 (by kernel_rfl) d_3 (fun _ => rfl) (DecFs.cons 1 (by kernel_rfl) d_3 (fun _ => rfl) (DecFs.cons 1 (by kernel_rfl) d_9 (fun _ => rfl) (DecFs.cons 11 (by kernel_rfl) d_50 (fun _ => rfl) (DecFs.nil _))))) (fun _ => rfl))
    (fun q => ⟨q.1, q.2.1, q.2.2.1, q.2.2.2.1⟩) _ _ (fun _ => rfl) (fun _ _ => trivial)
theorem und22 : Tryz.prog.underlying 22 = some (.slice 52) := by kernel_rfl
theorem d_22 : Dec Tryz.prog 22 (fun l : List Place => [.sl 14 (l.map encPlace)]) (fun _ => True) :=
  Dec.map (Dec.slice und22 14 _ (by kernel_rfl) rfl (by decide) d_52 encPlace (fun _ => rfl) (fun _ => rfl)) id _ _ (fun _ => rfl) (fun _ _ => trivial)
theorem d_24 : Dec Tryz.prog 24 (fun x : Tab => [(I x.s), (I x.c), (.sl 14 (x.l.map encPlace))]) (fun _ => True) :=
  Dec.map (Dec.struct 3 (by kernel_rfl) (by kernel_rfl) (DecFs.cons 1 (by kernel_rfl) d_3 (fun _ => rfl) (DecFs.cons 1 (by kernel_rfl) d_3 (fun _ => rfl) (DecFs.cons 1 (by kernel_rfl) d_22 (fun _ => rfl) (DecFs.nil _)))) (fun _ => rfl))
    (fun q => ⟨q.1, q.2.1, q.2.2.1⟩) _ _ (fun _ => rfl) (fun _ _ => trivial)
theorem d_58 : Dec Tryz.prog 58 (fun x : Prize => [(I x.f), (I x.t), (I x.a)]) (fun _ => True) :=
  Dec.map (Dec.struct 3 (by kernel_rfl) (by kernel_rfl) (DecFs.cons 1 (by kernel_rfl) d_3 (fun _ => rfl) (DecFs.cons 1 (by kernel_rfl) d_3 (fun _ => rfl) (DecFs.cons 1 (by kernel_rfl) d_3 (fun _ => rfl) (DecFs.nil _)))) (fun _ => rfl))
    (fun q => ⟨q.1, q.2.1, q.2.2.1⟩) _ _ (fun _ => rfl) (fun _ _ => trivial)
theorem und25 : Tryz.prog.underlying 25 = some (.slice 58) := by kernel_rfl
theorem d_25 : Dec Tryz.prog 25 (fun l : List Prize => [.sl 3 (l.map encPrize)]) (fun _ => True) :=
  Dec.map (Dec.slice und25 3 _ (by kernel_rfl) rfl (by decide) d_58 encPrize (fun _ => rfl) (fun _ => rfl)) id _ _ (fun _ => rfl) (fun _ _ => trivial)
theorem d_27 : Dec Tryz.prog 27 (fun x : Sch => [(I x.c), (.sl 3 (x.p.map encPrize)), (I x.u), (I x.d), (I x.ab), (I x.be)]) (fun _ => True) :=
  Dec.map (Dec.struct 6 (by kernel_rfl) (by kernel_rfl) (DecFs.cons 1 (by kernel_rfl) d_3 (fun _ => rfl) (DecFs.cons 1 (by kernel_rfl) d_25 (fun _ => rfl) (DecFs.cons 1 (by kernel_rfl) d_3 (fun _ => rfl) (DecFs.cons 1 (by kernel_rfl) d_3 (fun _ => rfl) (DecFs.cons 1 (by kernel_rfl) d_3 (fun _ => rfl) (DecFs.cons 1 (by kernel_rfl) d_3 (fun _ => rfl) (DecFs.nil _))))))) (fun _ => rfl))
    (fun q => ⟨q.1, q.2.1, q.2.2.1, q.2.2.2.1, q.2.2.2.2.1, q.2.2.2.2.2.1⟩) _ _ (fun _ => rfl) (fun _ _ => trivial)
theorem und4 : Tryz.prog.underlying 4 = some .bool := by kernel_rfl
end Go.Proofs.YtoiiblkncbnlaaaGreat

/-
  The data-level framework, third series, part f: regions that draw their order and have many sets, checked in portions. Generic in the program; no condition.
-/
set_option linter.unusedVariables false
set_option linter.unusedSimpArgs false
namespace Go.DL
open Go.RowKit
/-- The sets, as a search tree. -/
inductive Tr where
  | e : Tr
  | n : Tr → Nat → Tr → Tr
def Tr.list : Tr → List Nat
  | .e => []
  | .n a m b => a.list ++ m :: b.list
def Tr.has (k : Nat) : Tr → Bool
  | .e => false
  | .n a m b => match Nat.beq k m with
    | true => true
    | false => match Nat.ble k m with
      | true => a.has k
      | false => b.has k
theorem Tr.has_mem {k : Nat} : ∀ {t : Tr}, t.has k = true → k ∈ t.list
  | .e, h => by cases h
  | .n a m b, h => by
    simp only [Tr.has] at h
    simp only [Tr.list, List.mem_append, List.mem_cons]
    split at h
    · rename_i h1; exact .inr (.inl (Nat.eq_of_beq_eq_true h1))
    · split at h
      · exact .inl (Tr.has_mem h)
      · exact .inr (.inr (Tr.has_mem h))
def pickM (m : Nat) : LV → List (Nat × LV) → LV
  | l, [] => l
  | l, (i, v) :: vs => match m.testBit i with
    | true => pickM m v vs
    | false => pickM m l vs
def slF (m : Nat) : Nat → List (Nat × List (Nat × LV)) → List LV → List LV
  | _, _, [] => []
  | _, [], l => l
  | t, (k, vs) :: r, l :: ls => match Nat.beq k t with
    | true => pickM m l vs :: slF m (t + 1) r ls
    | false => l :: slF m (t + 1) ((k, vs) :: r) ls
def stF (s0 : DS) (vals : List (Nat × List (Nat × LV))) (bxs : List (Nat × Nat × Option Box)) (ids : List Nat) (m : Nat) : DS :=
  ⟨slF m 0 vals s0.sl, match bxs with
    | [] => s0.bx
    | bxs => ids.filterMap fun id => match lastOn m id bxs none with
      | some (some b) => some (id, b)
      | some none => none
      | none => (s0.bx.lookup id).map fun b => (id, b)⟩
/-- The operations that one operation waits for, as a number. -/
def maskOf : List Edge → Nat
  | [] => 0
  | e :: l => match Region.binds .any e with
    | true => 2 ^ e.on ||| maskOf l
    | false => maskOf l
def rdy (n : Nat) (dl : List Nat) (m : Nat) : List Nat := (List.range n).filter fun i => !m.testBit i && Nat.beq (dl.getD i 0 &&& m) (dl.getD i 0)
def edgesR (n : Nat) (dl sets : List Nat) : List (Nat × Nat) := sets.flatMap fun m => (rdy n dl m).map fun i => (m, i)
def dagOk2 (n : Nat) (dl : List Nat) (t : Tr) (sets : List Nat) : Bool :=
  sets.all fun m => ((rdy n dl m).all fun i => t.has (m + 2 ^ i) && Nat.beq (m + 2 ^ i) (m ||| 2 ^ i)) && (!(rdy n dl m).isEmpty || Nat.beq (m + 1) (2 ^ n))
theorem maskOf_bit (l : List Edge) (j : Nat) : (maskOf l).testBit j = true ↔ ∃ e ∈ l, Region.binds .any e = true ∧ e.on = j := by
  induction l with
  | nil => simp [maskOf]
  | cons e l ih =>
    simp only [maskOf]
    split
    · rename_i h
      rw [Nat.testBit_or, Bool.or_eq_true, ih, Nat.testBit_two_pow, decide_eq_true_eq]
      constructor
      · rintro (h1 | ⟨e', h1, h2⟩)
        · exact ⟨e, List.mem_cons_self, h, h1⟩
        · exact ⟨e', List.mem_cons_of_mem _ h1, h2⟩
      · rintro ⟨e', h1, h2, h3⟩
        rcases List.mem_cons.1 h1 with rfl | h4
        · exact .inl h3
        · exact .inr ⟨e', h4, h2, h3⟩
    · rename_i h
      rw [ih]
      constructor
      · rintro ⟨e', h1, h2⟩; exact ⟨e', List.mem_cons_of_mem _ h1, h2⟩
      · rintro ⟨e', h1, h2, h3⟩
        rcases List.mem_cons.1 h1 with rfl | h4
        · rw [h] at h2; cases h2
        · exact ⟨e', h4, h2, h3⟩
theorem and_sub {a m : Nat} : (a &&& m = a) ↔ ∀ j, a.testBit j = true → m.testBit j = true := by
  constructor
  · intro h j hj
    rw [← h, Nat.testBit_and, Bool.and_eq_true] at hj
    exact hj.2
  · intro h
    apply Nat.eq_of_testBit_eq
    intro j
    rw [Nat.testBit_and]
    cases hj : a.testBit j
    · rfl
    · rw [h j hj]; rfl
theorem bitsA_t {n m i : Nat} : (bitsA n m).getD i true = false ↔ i < n ∧ m.testBit i = false := by
  simp only [bitsA, Array.getD_eq_getD_getElem?, List.getElem?_toArray, List.getElem?_map]
  by_cases h : i < n
  · simp [List.getElem?_range h, h]
  · rw [List.getElem?_eq_none (by simp; omega)]; simp [h]
theorem bitsA_f {n m i : Nat} : (bitsA n m).getD i false = true ↔ i < n ∧ m.testBit i = true := by
  simp only [bitsA, Array.getD_eq_getD_getElem?, List.getElem?_toArray, List.getElem?_map]
  by_cases h : i < n
  · simp [List.getElem?_range h, h]
  · rw [List.getElem?_eq_none (by simp; omega)]; simp [h]
theorem bitsA_set {n m i : Nat} (h : i < n) (hb : m.testBit i = false) (he : m + 2 ^ i = m ||| 2 ^ i) : (bitsA n m).setIfInBounds i true = bitsA n (m + 2 ^ i) := by
  rw [he]
  apply Array.ext
  · simp [bitsA]
  · intro j h1 h2
    rw [Array.getElem_setIfInBounds]
    by_cases hij : i = j
    · subst hij
      simp [bitsA, Nat.testBit_or, Nat.testBit_two_pow]
    · rw [if_neg hij]
      simp [bitsA, Nat.testBit_or, Nat.testBit_two_pow, hij]
    · simpa using h1
section
variable {P : Program} {base : Nat} {ops : Array Oper} {Q : DX → DS → Prop} {s : DS}
theorem rdy_iff {l : List Oper} {dl : List Nat} {m i : Nat} (hm : ∀ j, m.testBit j = true → j < l.length) (hd : l.map (fun o => maskOf o.after.toList) = dl) : i ∈ rdy l.length dl m ↔ i ∈ Region.ready .any l.toArray (bitsA l.length m) := by
  rw [mem_ready, bitsA_t]
  simp only [rdy, List.mem_filter, List.mem_range, Bool.and_eq_true, Bool.not_eq_true', List.getElem?_toArray]
  constructor
  · rintro ⟨h1, h2, h3⟩
    refine ⟨⟨h1, h2⟩, l[i], List.getElem?_eq_getElem h1, fun e he hb => ?_⟩
    have hg : dl.getD i 0 = maskOf l[i].after.toList := by rw [← hd]; simp [List.getD, List.getElem?_map, List.getElem?_eq_getElem h1]
    rw [hg] at h3
    have h4 := and_sub.1 (Nat.eq_of_beq_eq_true h3) e.on ((maskOf_bit _ _).2 ⟨e, by simpa using he, hb, rfl⟩)
    exact bitsA_f.2 ⟨hm _ h4, h4⟩
  · rintro ⟨⟨h1, h2⟩, o, ho, h3⟩
    refine ⟨h1, h2, ?_⟩
    have hg : dl.getD i 0 = maskOf o.after.toList := by rw [← hd]; simp [List.getD, List.getElem?_map, ho]
    rw [hg]
    refine Nat.beq_eq ▸ (and_sub.2 fun j hj => ?_)
    obtain ⟨e, he, hb, rfl⟩ := (maskOf_bit _ _).1 hj
    exact (bitsA_f.1 (h3 e (by simpa using he) hb)).2
/-- One portion of the sets. -/
def Portion (P : Program) (base : Nat) (ops : Array Oper) (n : Nat) (dl : List Nat) (hs : List AH) (sides : List Prop) (st : Nat → DS) (ids : List Nat) (t : Tr) (c : List Nat) : Prop :=
  dagOk2 n dl t c = true ∧ (edgesR n dl c).map (anyEdge P base ops hs st ids) = (edgesR n dl c).map fun e => some (sides.getD e.2 True, st (e.1 + 2 ^ e.2))
theorem all_of {α : Type} {p : α → Prop} : ∀ {l : List α}, AllP (l.map p) → ∀ x ∈ l, p x
  | [], _, x, h => by cases h
  | y :: l, h, x, hx => by
    rcases List.mem_cons.1 hx with rfl | h2
    · exact h.1
    · exact all_of h.2 x h2
theorem mem_edges {sets : List Nat} {m i : Nat} : (m, i) ∈ edgesOf ops sets ↔ m ∈ sets ∧ i ∈ Region.ready .any ops (bitsA ops.size m) := by
  constructor
  · intro h
    obtain ⟨m', h1, h2⟩ := List.mem_flatMap.1 h
    obtain ⟨i', h3, h4⟩ := List.mem_map.1 h2
    cases h4
    exact ⟨h1, h3⟩
  · rintro ⟨hm, hi⟩; exact List.mem_flatMap.2 ⟨m, hm, List.mem_map.2 ⟨i, hi, rfl⟩⟩
theorem T_anyV {id : Nat} {l : List Oper} (hs : List AH) (sides : List Prop) (s0 : DS) (vals : List (Nat × List (Nat × LV))) (bxs : List (Nat × Nat × Option Box)) (ids : List Nat) (n : Nat) (dl : List Nat) (t : Tr) (chunks : List (List Nat)) (sv : DS) (hm : P.follows .mixedOrders = true) (hn : decide ids.Nodup = true)
    (hc : t.list = chunks.flatten) (h00 : t.has 0 = true) (h0 : stF s0 vals bxs ids 0 = s) (hl : l.length = n) (hd : l.map (fun o => maskOf o.after.toList) = dl) (hb : (t.list.all fun m => Nat.blt m (2 ^ n)) = true)
    (hE : AllP (chunks.map (Portion P base l.toArray n dl hs sides (stF s0 vals bxs ids) ids t)))
    (hside : AllP sides) (hsv : stF s0 vals bxs ids (2 ^ n - 1) = sv) (hend : Q .normal sv) : T P base (.region id l.toArray true) Q s := by
  subst hl
  have hch : ∀ m ∈ t.list, ∃ c ∈ chunks, m ∈ c := fun m hm => by rw [hc] at hm; simpa using hm
  have hbit : ∀ m ∈ t.list, ∀ j, m.testBit j = true → j < l.length := fun m hm j hj => by
    rw [List.all_eq_true] at hb
    have h1 := hb m hm
    simp only [Nat.blt_eq] at h1
    exact (Nat.pow_lt_pow_iff_right (by omega : 1 < 2)).1 (Nat.lt_of_le_of_lt (Nat.ge_two_pow_of_testBit hj) h1)
  refine T_any (edgesOf l.toArray t.list) t.list (stF s0 vals bxs ids) hm ?_ (DS.le_of_eq h0.symm) (Edges.of fun e he => ?_) (by rw [hsv]; exact hend)
  · unfold dagOk
    rw [Bool.and_eq_true, List.all_eq_true]
    refine ⟨by simpa using Tr.has_mem h00, fun m hm => ?_⟩
    obtain ⟨c, hc1, hc2⟩ := hch m hm
    have h1 := (all_of hE c hc1).1
    unfold dagOk2 at h1
    rw [List.all_eq_true] at h1
    have h2 := h1 m hc2
    rw [Bool.and_eq_true, List.all_eq_true] at h2
    simp only [List.size_toArray]
    rw [Bool.and_eq_true, List.all_eq_true]
    refine ⟨fun i hi => ?_, ?_⟩
    · have hr := (rdy_iff (hbit m hm) hd).2 hi
      have h3 := h2.1 i hr
      simp only [Bool.and_eq_true] at h3 ⊢
      obtain ⟨⟨h5, h6⟩, _⟩ := mem_ready.1 hi |>.imp_left (bitsA_t.1 ·) |> fun h => (⟨h.1, trivial⟩ : (_ ∧ _) ∧ True)
      refine ⟨⟨⟨?_, by rw [h6]; rfl⟩, by simpa using Tr.has_mem h3.1⟩, ?_⟩
      · rw [List.contains_iff_mem]; exact mem_edges.2 ⟨hm, by simpa using hi⟩
      · rw [beq_iff_eq]; exact bitsA_set h5 h6 (Nat.eq_of_beq_eq_true h3.2)
    · have h4 := h2.2
      rw [Bool.or_eq_true] at h4 ⊢
      rcases h4 with h4 | h4
      · left
        cases hr : rdy l.length dl m with
        | nil => rw [hr] at h4; cases h4
        | cons i r =>
          have hi := (rdy_iff (hbit m hm) hd).1 (show i ∈ rdy l.length dl m by rw [hr]; exact List.mem_cons_self)
          cases hq : Region.ready .any l.toArray (bitsA l.length m) with
          | nil => rw [hq] at hi; cases hi
          | cons _ _ => rfl
      · right; rw [beq_iff_eq]; exact Nat.eq_of_beq_eq_true h4
  · obtain ⟨m, i⟩ := e
    obtain ⟨h1, h2⟩ := mem_edges.1 he
    obtain ⟨c, hc1, hc2⟩ := hch m h1
    have h3 := (rdy_iff (hbit m h1) hd).2 (by simpa using h2)
    have := List.map_inj_left.1 (all_of hE c hc1).2 (m, i) (List.mem_flatMap.2 ⟨m, hc2, List.mem_map.2 ⟨i, h3, rfl⟩⟩)
    exact anyEdge_sound (of_decide_eq_true hn) this (AllP.get hside i)
theorem T_anyVS {id : Nat} {l : List Oper} {y : Code} (hs : List AH) (sides : List Prop) (s0 : DS) (vals : List (Nat × List (Nat × LV))) (bxs : List (Nat × Nat × Option Box)) (ids : List Nat) (n : Nat) (dl : List Nat) (t : Tr) (chunks : List (List Nat)) (sv : DS) (hm : P.follows .mixedOrders = true) (hn : decide ids.Nodup = true)
    (hc : t.list = chunks.flatten) (h00 : t.has 0 = true) (h0 : stF s0 vals bxs ids 0 = s) (hl : l.length = n) (hd : l.map (fun o => maskOf o.after.toList) = dl) (hb : (t.list.all fun m => Nat.blt m (2 ^ n)) = true)
    (hE : AllP (chunks.map (Portion P base l.toArray n dl hs sides (stF s0 vals bxs ids) ids t)))
    (hside : AllP sides) (hsv : stF s0 vals bxs ids (2 ^ n - 1) = sv) (hend : T P base y Q sv) : T P base (.seq (.region id l.toArray true) y) Q s :=
  T_seq (T_anyV hs sides s0 vals bxs ids n dl t chunks sv hm hn hc h00 h0 hl hd hb hE hside hsv hend)
end
end Go.DL
