/-
  The data-level framework, part d: arithmetic, comparisons, fields, indexes, slices, at the data level. Generic in the program; no condition.
-/
import Derived.Test.YtpkbecaailhhmaaDLc
set_option linter.unusedVariables false
set_option linter.unusedSimpArgs false
namespace Go.DL
open Go.RowKit
section
variable {P : Program} {w : World} {A : Nat → Prop} {M : BMap}

/-- An integer result, named by the hint. -/
def hintInt (k : IntKind) (r : Int) (h : Option D) : Prop × LV :=
  match h with
  | some (.int _ m) => (r = m, .one (.dat (.int k m)))
  | _ => (True, .one (.dat (.int k r)))

theorem hintInt_rel {k : IntKind} {r : Int} {h : Option D} (hs : (hintInt k r h).1) : LV.rel w A M (hintInt k r h).2 (.int k r) := by
  unfold hintInt at *
  split at hs
  · simp only at hs ⊢; subst hs; exact RelD.int _ _
  · exact RelD.int _ _

def cmpInt (op : BinOp) (a b : Int) : Option Bool :=
  match op with
  | .eql => some (a == b)
  | .neq => some (a != b)
  | .lss => some (decide (a < b))
  | .leq => some (decide (a ≤ b))
  | .gtr => some (decide (a > b))
  | .geq => some (decide (a ≥ b))
  | _ => none

def cmpStr (op : BinOp) (a b : List UInt8) : Option Bool :=
  match op with
  | .eql => some (a == b)
  | .neq => some (!(a == b))
  | .lss => some (Op.bytesLess a b)
  | .leq => some (Op.bytesLess a b || a == b)
  | .gtr => some (!(Op.bytesLess a b || a == b))
  | .geq => some (!(Op.bytesLess a b))
  | _ => none

def vBinInt (op : BinOp) (k k' : IntKind) (a b : Int) (h : Option D) : Option (Prop × LV) :=
  match op with
  | .shr => let r := hintInt k (a / 2 ^ b.toNat) h; some ((0 ≤ b ∧ b ≤ k.bits) ∧ r.1, r.2)
  | .shl => let r := hintInt k (k.wrap (a * 2 ^ b.toNat)) h; some ((0 ≤ b ∧ b ≤ k.bits) ∧ r.1, r.2)
  | op => match decide (k = k') with
  | false => none
  | true => match op with
    | .add => some (hintInt k (k.wrap (a + b)) h)
    | .sub => some (hintInt k (k.wrap (a - b)) h)
    | .mul => some (hintInt k (k.wrap (a * b)) h)
    | .quo => let r := hintInt k (k.wrap (a.tdiv b)) h; some (b ≠ 0 ∧ r.1, r.2)
    | .rem => let r := hintInt k (a.tmod b) h; some (b ≠ 0 ∧ r.1, r.2)
    | op => (cmpInt op a b).map fun r => (True, .one (.dat (.bool r)))

theorem run_binOp_int (op : BinOp) (t : TypeId) (k : IntKind) (a b : Int) (hs : op ≠ .shl) (hs' : op ≠ .shr) :
    (binOp op t (.int k a) (.int k b)).run P w = (match op with
      | .add | .sub | .mul => Op.intArith op k a b
      | .quo | .rem => Op.intDiv op k a b
      | .and | .or | .xor | .andNot => Op.intBits op k a b
      | _ => Op.intCmp op a b).run P w := by
  cases op <;> first | exact absurd rfl hs | exact absurd rfl hs' | simp [binOp]

theorem vBinInt_sound {op : BinOp} {t : TypeId} {k k' : IntKind} {a b : Int} {h : Option D} {side : Prop} {lv : LV} (hv : vBinInt op k k' a b h = some (side, lv)) (hs : side) :
    ∃ v, (binOp op t (.int k a) (.int k' b)).run P w = .ok v w ∧ LV.rel w A M lv v := by
  unfold vBinInt at hv
  by_cases hshr : op = .shr
  · subst hshr
    simp only [Option.some.injEq, Prod.mk.injEq] at hv
    obtain ⟨h1, h2⟩ := hv
    rw [← h1] at hs
    refine ⟨.int k (a / 2 ^ b.toNat), by simp only [binOp, shift_shr k k' a b hs.1.1 hs.1.2, Sem.run_pure], ?_⟩
    rw [← h2]
    exact hintInt_rel hs.2
  by_cases hshl : op = .shl
  · subst hshl
    simp only [Option.some.injEq, Prod.mk.injEq] at hv
    obtain ⟨h1, h2⟩ := hv
    rw [← h1] at hs
    refine ⟨.int k (k.wrap (a * 2 ^ b.toNat)), by simp only [binOp, shift_shl k k' a b hs.1.1 hs.1.2, Sem.run_pure], ?_⟩
    rw [← h2]
    exact hintInt_rel hs.2
  cases hk : decide (k = k') with
  | false => cases op <;> simp [hk] at hv hshr hshl
  | true =>
    have hkk := of_decide_eq_true hk
    subst hkk
    simp only [decide_true] at hv
    have cmp : ∀ r, cmpInt op a b = some r → op ≠ .shl ∧ op ≠ .shr ∧ (Op.intCmp op a b).run P w = .ok (.bool r) w := by
      intro r hr
      cases op <;> simp [cmpInt] at hr <;> subst hr <;> refine ⟨by simp, by simp, ?_⟩ <;> simp [Op.intCmp]
    cases op
    case add =>
      simp only [Option.some.injEq] at hv
      refine ⟨.int k (k.wrap (a + b)), by rw [run_binOp_int _ _ _ _ _ (by simp) (by simp)]; simp [Op.intArith], ?_⟩
      rw [show lv = (hintInt k (k.wrap (a + b)) h).2 by rw [hv]]
      exact hintInt_rel (by rw [hv]; exact hs)
    case sub =>
      simp only [Option.some.injEq] at hv
      refine ⟨.int k (k.wrap (a - b)), by rw [run_binOp_int _ _ _ _ _ (by simp) (by simp)]; simp [Op.intArith], ?_⟩
      rw [show lv = (hintInt k (k.wrap (a - b)) h).2 by rw [hv]]
      exact hintInt_rel (by rw [hv]; exact hs)
    case mul =>
      simp only [Option.some.injEq] at hv
      refine ⟨.int k (k.wrap (a * b)), by rw [run_binOp_int _ _ _ _ _ (by simp) (by simp)]; simp [Op.intArith], ?_⟩
      rw [show lv = (hintInt k (k.wrap (a * b)) h).2 by rw [hv]]
      exact hintInt_rel (by rw [hv]; exact hs)
    case quo =>
      simp only [Option.some.injEq, Prod.mk.injEq] at hv
      obtain ⟨h1, h2⟩ := hv
      rw [← h1] at hs
      refine ⟨.int k (k.wrap (a.tdiv b)), by rw [run_binOp_int _ _ _ _ _ (by simp) (by simp)]; simp [Op.intDiv, hs.1], ?_⟩
      rw [← h2]
      exact hintInt_rel hs.2
    case rem =>
      simp only [Option.some.injEq, Prod.mk.injEq] at hv
      obtain ⟨h1, h2⟩ := hv
      rw [← h1] at hs
      refine ⟨.int k (a.tmod b), by rw [run_binOp_int _ _ _ _ _ (by simp) (by simp)]; simp [Op.intDiv, hs.1], ?_⟩
      rw [← h2]
      exact hintInt_rel hs.2
    all_goals
      simp only [Option.map_eq_some_iff, Prod.mk.injEq] at hv
      obtain ⟨r, hr, _, rfl⟩ := hv
      obtain ⟨h1, h2, h3⟩ := cmp r hr
      first
        | (simp [cmpInt] at hr; done)
        | (refine ⟨.bool r, ?_, RelD.bool _⟩; rw [run_binOp_int _ _ _ _ _ h1 h2]; exact h3)

def eqCell (x y : C) : Option Bool :=
  match x, y with
  | .dat (.int k a), .dat (.int k' b) => match decide (k = k') with | true => some (a == b) | false => none
  | .dat (.bool a), .dat (.bool b) => some (a == b)
  | .dat (.str a), .dat (.str b) => some (a == b)
  | _, _ => none

/-- Equality of two structs whose fields are numbers, bools and strings. -/
def eqFieldsC (P : Program) (xs ys : List C) : List Field → Option Bool
  | [] => some true
  | f :: fs => match f.name == "_" with
    | true => none
    | false => match P.underlying f.type, xs[f.offset]?, ys[f.offset]? with
      | some (.int _), some (.dat (.int k a)), some (.dat (.int k' b)) => match decide (k = k'), eqFieldsC P xs ys fs with
        | true, some r => some (a == b && r)
        | _, _ => none
      | some .bool, some (.dat (.bool a)), some (.dat (.bool b)) => (eqFieldsC P xs ys fs).map (a == b && ·)
      | some .string, some (.dat (.str a)), some (.dat (.str b)) => (eqFieldsC P xs ys fs).map (a == b && ·)
      | _, _, _ => none

theorem run_part_one {t : TypeId} {arr : Array Value} {off : Nat} {v : Value} {d : TypeDesc} (hu : P.underlying t = some d) (hd : d.isRow = false) (hv : arr[off]? = some v) : (part t arr off).run P w = .ok v w := by
  have hagg : (isAgg t).run P w = .ok false w := by
    unfold isAgg
    rw [Sem.run_bind, run_underlying hu w]
    cases d <;> simp_all [TypeDesc.isRow]
  simp [part, hagg, hv]

theorem beq_lists (a b : ByteArray) : (a == b) = (a.data.toList == b.data.toList) := by
  rw [beq_toListBytes, ByteArray.toList_eq, ByteArray.toList_eq]

theorem relD_int {k : IntKind} {n : Int} {v : Value} (h : RelD w A (.int k n) v) : v = .int k n := by cases h; rfl
theorem relD_bool {b : Bool} {v : Value} (h : RelD w A (.bool b) v) : v = .bool b := by cases h; rfl
theorem relD_str {s : List UInt8} {v : Value} (h : RelD w A (.str s) v) : ∃ bs : ByteArray, v = .string bs ∧ bs.data.toList = s := by cases h; exact ⟨_, rfl, rfl⟩

theorem eqFieldsC_sound {xs ys : List C} {ax ay : Array Value} (hx : cellsRel w A M xs ax) (hy : cellsRel w A M ys ay) (d : Nat) : ∀ (fs : List Field) (r : Bool), eqFieldsC P xs ys fs = some r → (Op.eqFields (d + 1) ax ay fs).run P w = .ok r w
  | [], r, h => by simp [eqFieldsC] at h; subst h; simp [Op.eqFields]
  | f :: fs, r, h => by
    unfold eqFieldsC at h
    split at h
    · cases h
    · rename_i hn
      have hn' : f.name ≠ "_" := by simpa using hn
      split at h
      · rename_i k0 k a k' b hu h1 h2
        obtain ⟨u1, hu1, hr1⟩ := hx.2 _ _ h1
        obtain ⟨u2, hu2, hr2⟩ := hy.2 _ _ h2
        simp only [C.rel] at hr1 hr2
        cases hr1; cases hr2
        split at h
        · rename_i r' hk hr
          have := of_decide_eq_true hk; subst this
          simp only [Option.some.injEq] at h
          subst h
          have ih := eqFieldsC_sound hx hy d fs r' hr
          rw [Op.eqFields, if_pos hn']
          simp only [Sem.run_bind, run_part_one hu rfl hu1, run_part_one hu rfl hu2, Result.andThen_ok, run_equalIn_int w d f.type k k0 a b hu, Sem.run_ite, ih]
          cases (a == b) <;> simp
        · cases h
      · rename_i a b hu h1 h2
        obtain ⟨u1, hu1, hr1⟩ := hx.2 _ _ h1
        obtain ⟨u2, hu2, hr2⟩ := hy.2 _ _ h2
        simp only [C.rel] at hr1 hr2
        cases hr1; cases hr2
        simp only [Option.map_eq_some_iff] at h
        obtain ⟨r', hr, rfl⟩ := h
        have ih := eqFieldsC_sound hx hy d fs r' hr
        rw [Op.eqFields, if_pos hn']
        simp only [Sem.run_bind, run_part_one hu rfl hu1, run_part_one hu rfl hu2, Result.andThen_ok, run_equalIn_bool' w d f.type a b hu, Sem.run_ite, ih]
        cases (a == b) <;> simp
      · rename_i a b hu h1 h2
        obtain ⟨u1, hu1, hr1⟩ := hx.2 _ _ h1
        obtain ⟨u2, hu2, hr2⟩ := hy.2 _ _ h2
        simp only [C.rel] at hr1 hr2
        obtain ⟨b1, rfl, rfl⟩ := relD_str hr1
        obtain ⟨b2, rfl, rfl⟩ := relD_str hr2
        simp only [Option.map_eq_some_iff] at h
        obtain ⟨r', hr, rfl⟩ := h
        have ih := eqFieldsC_sound hx hy d fs r' hr
        rw [Op.eqFields, if_pos hn']
        simp only [Sem.run_bind, run_part_one hu rfl hu1, run_part_one hu rfl hu2, Result.andThen_ok, run_equalIn_string w d f.type b1 b2 hu, Sem.run_ite, ih]
        rw [← beq_toListBytes, beq_lists]
        cases (b1.data.toList == b2.data.toList) <;> simp
      · cases h

def vBin (P : Program) (op : BinOp) (t : TypeId) (x y : LV) (h : Option D) : Option (Prop × LV) :=
  match x, y with
  | .one (.dat (.int k a)), .one (.dat (.int k' b)) => vBinInt op k k' a b h
  | .one (.dat (.str a)), .one (.dat (.str b)) => match op with
    | .add => some (((a.length + b.length : Nat) : Int) ≤ 9223372036854775807, .one (.dat (.str (a ++ b))))
    | op => (cmpStr op a b).map fun r => (True, .one (.dat (.bool r)))
  | .one (.dat (.bool a)), .one (.dat (.bool b)) => match P.underlying t, op with
    | some .bool, .eql => some (True, .one (.dat (.bool (a == b))))
    | some .bool, .neq => some (True, .one (.dat (.bool (!(a == b)))))
    | _, _ => none
  | .agg xs, .agg ys => match P.underlying t, op, P.stoodInHeld t, P.eqGuardType P.depth t with
    | some (.struct fs), .eql, false, false => (eqFieldsC P xs ys fs.toList).map fun r => (True, .one (.dat (.bool r)))
    | some (.struct fs), .neq, false, false => (eqFieldsC P xs ys fs.toList).map fun r => (True, .one (.dat (.bool (!r))))
    | _, _, _, _ => none
  | .one (.dat (.con (.slice none 0 0))), .one (.dat (.con (.slice none 0 0))) => match P.underlying t, op with
    | some (.slice _), .eql => some (True, .one (.dat (.bool true)))
    | some (.slice _), .neq => some (True, .one (.dat (.bool false)))
    | _, _ => none
  | .one (.dat (.sl _ es)), .one (.dat (.con (.slice none 0 0))) => match P.underlying t, op with
    | some (.slice _), .eql => some (es ≠ [], .one (.dat (.bool false)))
    | some (.slice _), .neq => some (es ≠ [], .one (.dat (.bool true)))
    | _, _ => none
  | .one (.dat (.con (.pointer none))), .one (.dat (.con (.pointer none))) => match P.underlying t, op with
    | some (.pointer _), .eql => some (True, .one (.dat (.bool true)))
    | some (.pointer _), .neq => some (True, .one (.dat (.bool false)))
    | _, _ => none
  | .one (.ref _ _), .one (.dat (.con (.pointer none))) => match P.underlying t, op with
    | some (.pointer _), .eql => some (True, .one (.dat (.bool false)))
    | some (.pointer _), .neq => some (True, .one (.dat (.bool true)))
    | _, _ => none
  | .one (.dat (.ptr _)), .one (.dat (.con (.pointer none))) => match P.underlying t, op with
    | some (.pointer _), .eql => some (True, .one (.dat (.bool false)))
    | some (.pointer _), .neq => some (True, .one (.dat (.bool true)))
    | _, _ => none
  | _, _ => none

theorem run_eqGuard_plain (op : BinOp) (t : TypeId) (x y : Operand) (u v : Value) (h1 : ¬ (u = .nilIface ∧ v = .nilIface)) (h2 : ∀ a b, ¬ (u = .agg a ∧ v = .agg b)) : (eqGuard op t x y u v).run P w = .ok () w := by
  unfold eqGuard
  cases op <;> cases u <;> cases v <;> simp_all

theorem equal_nil (d : Nat) (t e : TypeId) (hu : P.underlying t = some (.slice e)) (a : Option Addr) (n c : Nat) : (Op.equalIn (d + 1) t (.slice a n c) (.slice none 0 0)).run P w = .ok a.isNone w := by
  cases a <;> simp [Op.equalIn, run_underlying hu]

theorem equal_nilp (d : Nat) (t e : TypeId) (hu : P.underlying t = some (.pointer e)) (a : Option Addr) : (Op.equalIn (d + 1) t (.pointer a) (.pointer none)).run P w = .ok a.isNone w := by
  cases a <;> simp [Op.equalIn, run_underlying hu]

theorem vBin_sound {op : BinOp} {t : TypeId} {x y : LV} {u v : Value} {h : Option D} {side : Prop} {lv : LV} {ox oy : Operand} (hv : vBin P op t x y h = some (side, lv)) (hs : side)
    (hx : LV.rel w A M x u) (hy : LV.rel w A M y v) :
    ∃ r, (do eqGuard op t ox oy u v; binOp op t u v : Sem Value).run P w = .ok r w ∧ LV.rel w A M lv r := by
  unfold vBin at hv
  split at hv
  · rename_i k a k' b
    simp only [LV.rel, C.rel] at hx hy
    cases hx; cases hy
    obtain ⟨r, h1, h2⟩ := vBinInt_sound (P := P) (w := w) (A := A) (M := M) (t := t) hv hs
    exact ⟨r, by rw [Sem.run_bind, run_eqGuard_plain _ _ _ _ _ _ (by simp) (by simp)]; exact h1, h2⟩
  · rename_i a b
    simp only [LV.rel, C.rel] at hx hy
    obtain ⟨b1, rfl, rfl⟩ := relD_str hx
    obtain ⟨b2, rfl, rfl⟩ := relD_str hy
    have hg := run_eqGuard_plain (P := P) (w := w) op t ox oy (.string b1) (.string b2) (by simp) (by simp)
    split at hv
    · simp only [Option.some.injEq, Prod.mk.injEq] at hv
      obtain ⟨h1, rfl⟩ := hv
      rw [← h1] at hs
      refine ⟨.string (b1 ++ b2), ?_, ?_⟩
      · rw [Sem.run_bind, hg]
        have : ¬ (((b1.size + b2.size : Nat) : Int) > IntKind.i64.max) := by
          have e1 : b1.data.toList.length = b1.size := Array.length_toList
          have e2 : b2.data.toList.length = b2.size := Array.length_toList
          rw [e1, e2] at hs
          have : IntKind.i64.max = 9223372036854775807 := by decide
          rw [this]; omega
        simp only [Result.andThen_ok, binOp, Op.stringOp, if_neg this, Sem.run_pure]
      · simp only [LV.rel, C.rel]
        have : b1.data.toList ++ b2.data.toList = (b1 ++ b2).data.toList := by simp
        rw [this]; exact .str _
    · rename_i hne
      simp only [Option.map_eq_some_iff, Prod.mk.injEq] at hv
      obtain ⟨r, hr, _, rfl⟩ := hv
      refine ⟨.bool r, ?_, RelD.bool _⟩
      rw [Sem.run_bind, hg]
      have e1 : b1.toList = b1.data.toList := ByteArray.toList_eq _
      have e2 : b2.toList = b2.data.toList := ByteArray.toList_eq _
      cases op <;> simp only [cmpStr, Option.some.injEq, reduceCtorEq] at hr <;> subst hr <;> simp [binOp, Op.stringOp, e1, e2]
  · rename_i a b
    simp only [LV.rel, C.rel] at hx hy
    cases hx; cases hy
    split at hv <;> simp only [Option.some.injEq, Prod.mk.injEq, reduceCtorEq] at hv
    · rename_i hu
      obtain ⟨_, rfl⟩ := hv
      exact ⟨_, by rw [Sem.run_bind, run_eqGuard_plain _ _ _ _ _ _ (by simp) (by simp)]; exact run_eql_bool w t a b hu, RelD.bool _⟩
    · rename_i hu
      obtain ⟨_, rfl⟩ := hv
      exact ⟨_, by rw [Sem.run_bind, run_eqGuard_plain _ _ _ _ _ _ (by simp) (by simp)]; exact run_neq_bool w t a b hu, RelD.bool _⟩
  · rename_i xs ys
    obtain ⟨ax, rfl, hxc⟩ := hx
    obtain ⟨ay, rfl, hyc⟩ := hy
    split at hv
    · rename_i fs hu hst hgd
      simp only [Option.map_eq_some_iff, Prod.mk.injEq] at hv
      obtain ⟨r, hr, _, rfl⟩ := hv
      have hf : P.fieldsOf t = fs := by simp [Program.fieldsOf, hu]
      refine ⟨.bool r, ?_, RelD.bool _⟩
      rw [Sem.run_bind, run_eqGuard_agg w _ t ox oy ax ay hgd]
      simp only [Result.andThen_ok]
      rw [run_eql_struct, show (10000 : Nat) = 9998 + 1 + 1 from rfl, run_equalIn_struct w _ t ax ay (by rw [hf]; exact hu) hst, hf, eqFieldsC_sound hxc hyc 9998 fs.toList r hr]
      rfl
    · rename_i fs hu hst hgd
      simp only [Option.map_eq_some_iff, Prod.mk.injEq] at hv
      obtain ⟨r, hr, _, rfl⟩ := hv
      have hf : P.fieldsOf t = fs := by simp [Program.fieldsOf, hu]
      refine ⟨.bool (!r), ?_, RelD.bool _⟩
      rw [Sem.run_bind, run_eqGuard_agg w _ t ox oy ax ay hgd]
      simp only [Result.andThen_ok]
      rw [run_neq_struct, show (10000 : Nat) = 9998 + 1 + 1 from rfl, run_equalIn_struct w _ t ax ay (by rw [hf]; exact hu) hst, hf, eqFieldsC_sound hxc hyc 9998 fs.toList r hr]
      rfl
    · cases hv
  · simp only [LV.rel, C.rel] at hx hy
    cases hx; cases hy
    split at hv <;> simp only [Option.some.injEq, Prod.mk.injEq, reduceCtorEq] at hv
    · rename_i hu
      obtain ⟨_, rfl⟩ := hv
      refine ⟨.bool true, ?_, RelD.bool _⟩
      rw [Sem.run_bind, run_eqGuard_plain _ _ _ _ _ _ (by simp) (by simp)]
      simp [binOp, Op.equal, Op.maxDepth, equal_nil 9999 t _ hu]
    · rename_i hu
      obtain ⟨_, rfl⟩ := hv
      refine ⟨.bool false, ?_, RelD.bool _⟩
      rw [Sem.run_bind, run_eqGuard_plain _ _ _ _ _ _ (by simp) (by simp)]
      simp [binOp, Op.equal, Op.maxDepth, equal_nil 9999 t _ hu]
  · rename_i sz es
    simp only [LV.rel, C.rel] at hx hy
    cases hy
    have key : es ≠ [] → ∃ a n c, u = .slice (some a) n c := by
      intro hne
      cases hx with
      | sl _ _ b off cap vs => exact ⟨_, _, _, rfl⟩
      | sl0 _ a c _ => exact absurd rfl hne
    split at hv <;> simp only [Option.some.injEq, Prod.mk.injEq, reduceCtorEq] at hv
    · rename_i hu
      obtain ⟨h1, rfl⟩ := hv
      rw [← h1] at hs
      obtain ⟨a, n, c, rfl⟩ := key hs
      refine ⟨.bool false, ?_, RelD.bool _⟩
      rw [Sem.run_bind, run_eqGuard_plain _ _ _ _ _ _ (by simp) (by simp)]
      simp [binOp, Op.equal, Op.maxDepth, equal_nil 9999 t _ hu]
    · rename_i hu
      obtain ⟨h1, rfl⟩ := hv
      rw [← h1] at hs
      obtain ⟨a, n, c, rfl⟩ := key hs
      refine ⟨.bool true, ?_, RelD.bool _⟩
      rw [Sem.run_bind, run_eqGuard_plain _ _ _ _ _ _ (by simp) (by simp)]
      simp [binOp, Op.equal, Op.maxDepth, equal_nil 9999 t _ hu]
  · simp only [LV.rel, C.rel] at hx hy
    cases hx; cases hy
    split at hv <;> simp only [Option.some.injEq, Prod.mk.injEq, reduceCtorEq] at hv
    · rename_i hu
      obtain ⟨_, rfl⟩ := hv
      refine ⟨.bool true, ?_, RelD.bool _⟩
      rw [Sem.run_bind, run_eqGuard_plain _ _ _ _ _ _ (by simp) (by simp)]
      simp [binOp, Op.equal, Op.maxDepth, equal_nilp 9999 t _ hu]
    · rename_i hu
      obtain ⟨_, rfl⟩ := hv
      refine ⟨.bool false, ?_, RelD.bool _⟩
      rw [Sem.run_bind, run_eqGuard_plain _ _ _ _ _ _ (by simp) (by simp)]
      simp [binOp, Op.equal, Op.maxDepth, equal_nilp 9999 t _ hu]
  · simp only [LV.rel, C.rel] at hx hy
    cases hy
    subst hx
    split at hv <;> simp only [Option.some.injEq, Prod.mk.injEq, reduceCtorEq] at hv
    · rename_i hu
      obtain ⟨_, rfl⟩ := hv
      refine ⟨.bool false, ?_, RelD.bool _⟩
      rw [Sem.run_bind, run_eqGuard_plain _ _ _ _ _ _ (by simp) (by simp)]
      simp [binOp, Op.equal, Op.maxDepth, equal_nilp 9999 t _ hu]
    · rename_i hu
      obtain ⟨_, rfl⟩ := hv
      refine ⟨.bool true, ?_, RelD.bool _⟩
      rw [Sem.run_bind, run_eqGuard_plain _ _ _ _ _ _ (by simp) (by simp)]
      simp [binOp, Op.equal, Op.maxDepth, equal_nilp 9999 t _ hu]
  · simp only [LV.rel, C.rel] at hx hy
    cases hy
    cases hx
    split at hv <;> simp only [Option.some.injEq, Prod.mk.injEq, reduceCtorEq] at hv
    · rename_i hu
      obtain ⟨_, rfl⟩ := hv
      refine ⟨.bool false, ?_, RelD.bool _⟩
      rw [Sem.run_bind, run_eqGuard_plain _ _ _ _ _ _ (by simp) (by simp)]
      simp [binOp, Op.equal, Op.maxDepth, equal_nilp 9999 t _ hu]
    · rename_i hu
      obtain ⟨_, rfl⟩ := hv
      refine ⟨.bool true, ?_, RelD.bool _⟩
      rw [Sem.run_bind, run_eqGuard_plain _ _ _ _ _ _ (by simp) (by simp)]
      simp [binOp, Op.equal, Op.maxDepth, equal_nilp 9999 t _ hu]
  · cases hv
end
end Go.DL
