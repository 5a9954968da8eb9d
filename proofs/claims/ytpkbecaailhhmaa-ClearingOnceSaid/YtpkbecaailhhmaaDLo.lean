/-
  The data-level framework, part o: regions that draw their order. Generic in the program; no condition.
-/
import Derived.Test.YtpkbecaailhhmaaDLn
import Derived.StillTail
set_option linter.unusedVariables false
set_option linter.unusedSimpArgs false
namespace Go.DL
open Go.RowKit

/-- The operations that only make values, in the order of the text. -/
def pexec (P : Program) (ops : Array Oper) : List Oper → List Hint → DS → Option (Prop × DS)
  | [], _, s => some (True, s)
  | o :: os, hs, s =>
    match wantB ops o s (hs.headD {}).g with
    | none => none
    | some (p, false) => match pexec P ops os hs.tail (s.put o.dst UD) with
      | some (q, s') => some (p ∧ q, s')
      | none => none
    | some (p, true) => match pval P s.ev s.bx (hs.headD {}).d o with
      | none => none
      | some (r, lv) => match pexec P ops os hs.tail (s.put o.dst lv) with
        | some (q, s') => some (p ∧ r ∧ q, s')
        | none => none

def dexecDraw (P : Program) (base : Nat) (l : List Oper) (n : Nat) (hs : List Hint) (s : DS) : Option (Prop × DS) :=
  match pexec P l.toArray (l.take n) hs s with
  | some (p, s1) => match dexec P base l.toArray (l.drop n) (hs.drop n) s1 with
    | some (q, s2) => some (p ∧ q, s2)
    | none => none
  | none => none

def headListed (n m : Nat) : Array Bool := ((List.replicate n true) ++ (List.replicate (m - n) false)).toArray

/-- Whatever order is drawn, the first n operations do not disturb each other, and the others come behind them one by one. -/
def drawOk (ops : Array Oper) (n : Nat) : Bool :=
  Region.noSelect ops && Nat.ble n ops.size &&
  ((List.range n).all fun k => (List.range n).all fun j => Nat.ble j k || Region.waitsFor .any ops j k || (match ops[k]?, ops[j]? with | some x, some y => x.apart ops y | _, _ => false)) &&
  ((List.range n).all fun j => match ops[j]? with | some o => o.after.all fun e => !Region.binds .any e || Nat.blt e.on j | none => false) &&
  (n == ops.size || (Region.sinkB .any ops n && Region.chainB .any ops n)) &&
  Region.seqB .any ops (ops.size - n) n (headListed n ops.size)

section
variable {P : Program} {w : World} {A : Nat → Prop} {M : BMap}

def Good (P : Program) (ops : Array Oper) (s : DS) (o : Oper) (v : LV) : Prop :=
  ∃ g p b, wantB ops o s g = some (p, b) ∧ p ∧ ((b = false ∧ v = UD) ∨ (b = true ∧ ∃ h sd, pval P s.ev s.bx h o = some (sd, v) ∧ sd))

theorem pexec_steps {ops : Array Oper} : ∀ (l : List Oper) (hs : List Hint) (s s' : DS) (side : Prop), pexec P ops l hs s = some (side, s') → side →
    ∃ (v : Nat → LV) (st : Nat → DS), st 0 = s ∧ st l.length = s' ∧ ∀ i o, l[i]? = some o → st (i + 1) = (st i).put o.dst (v i) ∧ Good P ops (st i) o (v i)
  | [], hs, s, s', side, h, _ => by
    simp only [pexec, Option.some.injEq, Prod.mk.injEq] at h
    exact ⟨fun _ => .one .junk, fun _ => s, rfl, h.2, fun i o hi => by simp at hi⟩
  | o :: os, hs, s, s', side, h, hside => by
    unfold pexec at h
    have cons : ∀ (v0 : LV) (q : Prop), pexec P ops os hs.tail (s.put o.dst v0) = some (q, s') → q → Good P ops s o v0 →
        ∃ (v : Nat → LV) (st : Nat → DS), st 0 = s ∧ st (o :: os).length = s' ∧ ∀ i o', (o :: os)[i]? = some o' → st (i + 1) = (st i).put o'.dst (v i) ∧ Good P ops (st i) o' (v i) := by
      intro v0 q hq hqs hg
      obtain ⟨v, st, h1, h2, h3⟩ := pexec_steps os hs.tail _ s' q hq hqs
      refine ⟨fun i => match i with | 0 => v0 | i + 1 => v i, fun i => match i with | 0 => s | i + 1 => st i, rfl, h2, fun i o' hi => ?_⟩
      cases i with
      | zero => simp at hi; subst hi; exact ⟨h1, hg⟩
      | succ i => exact h3 i o' (by simpa using hi)
    split at h
    · cases h
    · rename_i p hw
      split at h
      · rename_i q s2 h2
        simp only [Option.some.injEq, Prod.mk.injEq] at h
        obtain ⟨h1, rfl⟩ := h
        rw [← h1] at hside
        exact cons _ q h2 hside.2 ⟨_, p, false, hw, hside.1, .inl ⟨rfl, rfl⟩⟩
      · cases h
    · rename_i p hw
      split at h
      · cases h
      · rename_i r lv h3
        split at h
        · rename_i q s2 h2
          simp only [Option.some.injEq, Prod.mk.injEq] at h
          obtain ⟨h1, rfl⟩ := h
          rw [← h1] at hside
          exact cons _ q h2 hside.2.2 ⟨_, p, true, hw, hside.1, .inr ⟨rfl, _, r, h3, hside.2.1⟩⟩
        · cases h

/-- What stands in a slot once the operations of X have run. -/
def view (dst : Nat → Option Tmp) (v : Nat → LV) (sl : List LV) (X : Nat → Bool) : Nat → Tmp → Option LV
  | 0, t => sl[t]?
  | k + 1, t => if X k = true ∧ dst k = some t ∧ t < sl.length then some (v k) else view dst v sl X k t

theorem put_get (s : DS) (d : Option Tmp) (l : LV) (t : Nat) : (s.put d l).sl[t]? = if d = some t ∧ t < s.sl.length then some l else s.sl[t]? := by
  cases d with
  | none => simp [DS.put]
  | some d =>
    simp only [DS.put, List.getElem?_set]
    by_cases hd : d = t
    · subst hd
      by_cases hl : d < s.sl.length
      · simp [hl]
      · simp [hl]
    · simp [hd]

theorem put_len (s : DS) (d : Option Tmp) (l : LV) : (s.put d l).sl.length = s.sl.length := by
  cases d <;> simp [DS.put]

theorem put_bx (s : DS) (d : Option Tmp) (l : LV) : (s.put d l).bx = s.bx := by
  cases d <;> rfl

theorem view_after {dst : Nat → Option Tmp} {v : Nat → LV} {sl : List LV} {X : Nat → Bool} {i : Nat} (hXi : X i = false) (m : Nat)
    (hlater : ∀ j t, i < j → j < m → dst i = some t → dst j = some t → X j = false) (t : Tmp) :
    view dst v sl (fun j => X j || j == i) m t = if i < m ∧ dst i = some t ∧ t < sl.length then some (v i) else view dst v sl X m t := by
  induction m with
  | zero => simp [view]
  | succ m ih =>
    have ih' := ih (fun j t h1 h2 => hlater j t h1 (by omega))
    simp only [view]
    rw [ih']
    by_cases hm : m = i
    · subst hm
      simp only [beq_self_eq_true, Bool.or_true, true_and, hXi, Bool.false_eq_true, false_and, if_false, Nat.lt_irrefl, Nat.lt_succ_self]
    · have hbe : (m == i) = false := by simpa using hm
      simp only [hbe, Bool.or_false]
      by_cases hlt : i < m
      · have e1 : (i < m + 1) = True := by simp; omega
        have e2 : (i < m) = True := by simp; exact hlt
        simp only [e1, e2, true_and]
        by_cases hd : dst i = some t ∧ t < sl.length
        · simp only [if_pos hd]
          by_cases hx : X m = true ∧ dst m = some t ∧ t < sl.length
          · have := hlater m t hlt (by omega) hd.1 hx.2.1
            rw [this] at hx
            cases hx.1
          · rw [if_neg hx]
        · simp only [if_neg hd]
      · have e1 : ¬ i < m + 1 := by omega
        simp [hlt, e1]

theorem view_same {dst : Nat → Option Tmp} {v : Nat → LV} {sl : List LV} {X : Nat → Bool} {i : Nat} {t : Tmp} (hXi : X i = false) (m : Nat)
    (hbefore : ∀ j, j < i → dst j = some t → X j = true) (hafter : ∀ j, i < j → j < m → dst j = some t → X j = false) :
    view dst v sl X m t = view dst v sl (fun _ => true) (min m i) t := by
  induction m with
  | zero => simp [view]
  | succ m ih =>
    have ih' := ih (fun j h1 h2 => hafter j h1 (by omega))
    simp only [view]
    rw [ih']
    by_cases hlt : m < i
    · rw [show min (m + 1) i = min m i + 1 by omega, show min m i = m by omega]
      simp only [view]
      by_cases hd : dst m = some t
      · simp [hd, hbefore m hlt hd]
      · simp [hd]
    · rw [show min (m + 1) i = min m i by omega]
      by_cases hm : m = i
      · subst hm; simp [hXi]
      · by_cases hd : dst m = some t
        · simp [hafter m (by omega) (by omega) hd]
        · simp [hd]

theorem wantB_sound' {ops : Array Oper} {o : Oper} {s : DS} {a : Act} {g b : Bool} {p : Prop} (h : wantB ops o s g = some (p, b)) (hp : p) (hsz : a.tmps.size = s.sl.length)
    (hg : ∀ t ∈ o.looksAt ops, ∀ l, s.sl[t]? = some l → LV.rel w A M l (a.tmps.getD t undef)) : Region.wanted o (yielded ops a.tmps) = b := by
  unfold wantB at h
  unfold Region.wanted
  split at h
  · rename_i hgd
    cases h
    rw [hgd]
  · rename_i j want hgd
    rw [hgd]
    split at h
    · rename_i t ht
      split at h
      · rename_i bb hsl
        simp only [Option.some.injEq, Prod.mk.injEq] at h
        obtain ⟨h1, rfl⟩ := h
        rw [← h1] at hp
        have hr := hg t (by simp [Oper.looksAt, hgd, ht]) _ hsl
        simp only [LV.rel, C.rel] at hr
        have hv := relD_bool hr
        have hlt : t < a.tmps.size := by rw [hsz]; exact (List.getElem?_eq_some_iff.1 hsl).1
        have hy : yielded ops a.tmps j = some bb := by
          unfold yielded
          rw [ht]
          simp only [Option.bind_some]
          rw [Array.getElem?_eq_getElem hlt]
          simp only [Array.getD_eq_getD_getElem?, Array.getElem?_eq_getElem hlt, Option.getD_some] at hv
          rw [hv]
        simp only [hy]
        rw [← hp]
        cases bb <;> cases want <;> rfl
      · rename_i hsl
        simp only [Option.some.injEq, Prod.mk.injEq] at h
        obtain ⟨_, rfl⟩ := h
        have hr := hg t (by simp [Oper.looksAt, hgd, ht]) _ hsl
        simp only [LV.rel, C.rel] at hr
        have hlt : t < a.tmps.size := by rw [hsz]; exact (List.getElem?_eq_some_iff.1 hsl).1
        have hy : yielded ops a.tmps j = none := by
          unfold yielded
          rw [ht]
          simp only [Option.bind_some]
          rw [Array.getElem?_eq_getElem hlt]
          simp only [Array.getD_eq_getD_getElem?, Array.getElem?_eq_getElem hlt, Option.getD_some] at hr
          generalize a.tmps[t] = v at hr
          cases hr
          rfl
        simp only [hy]
        rfl
      · cases h
    · cases h

theorem listed_eq {n m : Nat} {listed : Array Bool} (hs : listed.size = m) (hn : n ≤ m) (h1 : ∀ i, i < n → listed.getD i false = true) (h2 : ∀ i, n ≤ i → i < m → listed.getD i true = false) : listed = headListed n m := by
  apply Array.ext
  · simp [headListed, hs]; omega
  · intro i hi1 hi2
    have hv : listed.getD i false = listed[i] := by simp [hi1]
    have hv2 : listed.getD i true = listed[i] := by simp [hi1]
    simp only [headListed, List.getElem_toArray, List.getElem_append]
    by_cases hin : i < n
    · rw [dif_pos (by simpa using hin)]
      rw [← hv, h1 i hin]; simp
    · rw [dif_neg (by simpa using hin)]
      rw [← hv2, h2 i (by omega) (by omega)]; simp

/-- How many of the first n are still to come. -/
def todo (n : Nat) (listed : Array Bool) : Nat := ((List.range n).filter fun i => !listed.getD i false).length

theorem todo_set {n i : Nat} {listed : Array Bool} (hin : i < n) (hs : i < listed.size) (hl : listed.getD i false = false) : todo n listed = todo n (listed.setIfInBounds i true) + 1 := by
  unfold todo
  have key : ∀ (l : List Nat), l.Nodup → i ∈ l → (l.filter fun k => !listed.getD k false).length = (l.filter fun k => !(listed.setIfInBounds i true).getD k false).length + 1 := by
    intro l
    induction l with
    | nil => intro _ h; cases h
    | cons x l ih =>
      intro hnd hm
      obtain ⟨hx, hnd'⟩ := List.nodup_cons.1 hnd
      by_cases hxi : x = i
      · subst hxi
        have e1 : (listed.setIfInBounds x true).getD x false = true := by simp [hs]
        have hsame : (l.filter fun k => !listed.getD k false) = (l.filter fun k => !(listed.setIfInBounds x true).getD k false) := by
          refine List.filter_congr fun k hk => ?_
          have hne : x ≠ k := fun e => hx (e ▸ hk)
          rw [getD_set_ne false hne]
        rw [List.filter_cons, List.filter_cons, e1, hl, hsame]
        simp
      · have hm' : i ∈ l := by
          rcases List.mem_cons.1 hm with h | h
          · exact absurd h.symm hxi
          · exact h
        have := ih hnd' hm'
        rw [List.filter_cons, List.filter_cons, getD_set_ne false (fun e => hxi e.symm)]
        split
        · rw [List.length_cons, List.length_cons, this]
        · exact this
  exact key _ List.nodup_range (List.mem_range.2 hin)

theorem todo_zero {n : Nat} {listed : Array Bool} (h : todo n listed = 0) : ∀ i, i < n → listed.getD i false = true := by
  intro i hi
  unfold todo at h
  have := List.eq_nil_of_length_eq_zero h
  have h2 := List.filter_eq_nil_iff.1 this i (List.mem_range.2 hi)
  simpa using h2

theorem exists_todo {n : Nat} {listed : Array Bool} {f : Nat} (h : todo n listed = f + 1) : ∃ i, i < n ∧ listed.getD i false = false ∧ ∀ j, j < i → listed.getD j false = true := by
  have hex : ∃ i, i < n ∧ listed.getD i false = false := by
    unfold todo at h
    have hne : ((List.range n).filter fun i => !listed.getD i false) ≠ [] := by intro e; rw [e] at h; cases h
    obtain ⟨x, hx⟩ := List.exists_mem_of_ne_nil _ hne
    simp only [List.mem_filter, List.mem_range, Bool.not_eq_true'] at hx
    exact ⟨x, hx.1, hx.2⟩
  have key : ∀ k, (∃ i, i ≤ k ∧ i < n ∧ listed.getD i false = false) → ∃ i, i < n ∧ listed.getD i false = false ∧ ∀ j, j < i → listed.getD j false = true := by
    intro k
    induction k with
    | zero =>
      rintro ⟨i, hi, h1, h2⟩
      exact ⟨i, h1, h2, fun j hj => by omega⟩
    | succ k ih =>
      rintro ⟨i, hi, h1, h2⟩
      by_cases hlow : ∃ i', i' ≤ k ∧ i' < n ∧ listed.getD i' false = false
      · exact ih hlow
      · refine ⟨i, h1, h2, fun j hj => ?_⟩
        cases hg : listed.getD j false with
        | true => rfl
        | false => exact absurd ⟨j, by omega, by omega, hg⟩ hlow
  obtain ⟨i, h1, h2⟩ := hex
  exact key i ⟨i, Nat.le_refl _, h1, h2⟩

/-- A REGION THAT DRAWS ITS ORDER. -/
theorem T_draw {base id : Nat} {l : List Oper} {Q : DX → DS → Prop} {s : DS} (n : Nat) (hs : List Hint) (s' : DS) (side : Prop) (hm : P.follows .mixedOrders = true) (hok : drawOk l.toArray n = true)
    (h : dexecDraw P base l n hs s = some (side, s')) (hside : side) (hq : Q .normal s') : T P base (.region id l.toArray true) Q s := by
  intro E M w0 a0 hbase hst0
  unfold dexecDraw at h
  split at h
  case h_2 => cases h
  rename_i p s1 hp
  split at h
  case h_2 => cases h
  rename_i q s2 hd
  simp only [Option.some.injEq, Prod.mk.injEq] at h
  obtain ⟨h1, rfl⟩ := h
  rw [← h1] at hside
  obtain ⟨v, st, hst00, hstn, hsteps⟩ := pexec_steps _ _ _ _ _ hp hside.1
  have htail := dexec_sound (P := P) (base := base) (Q := Q) _ _ _ _ _ hd hside.2 hq
  simp only [drawOk, Bool.and_eq_true] at hok
  obtain ⟨⟨⟨⟨⟨hsel, hnle⟩, hpairs⟩, hback⟩, hsink⟩, hseq⟩ := hok
  have hnle' : n ≤ l.length := by simpa using Nat.le_of_ble_eq_true hnle
  have htl : (l.take n).length = n := by simp; omega
  rw [htl] at hstn
  have hget : ∀ i, i < n → ∃ o, l[i]? = some o ∧ st (i + 1) = (st i).put o.dst (v i) ∧ Good P l.toArray (st i) o (v i) := by
    intro i hi
    have hlt : i < l.length := by omega
    refine ⟨l[i], List.getElem?_eq_getElem hlt, hsteps i l[i] ?_⟩
    rw [List.getElem?_take, if_pos hi, List.getElem?_eq_getElem hlt]
  let dst : Nat → Option Tmp := fun i => (l[i]?).bind (·.dst)
  have hstsl : ∀ i, i ≤ n → (st i).sl.length = s.sl.length ∧ (st i).bx = s.bx ∧ ∀ t, (st i).sl[t]? = view dst v s.sl (fun _ => true) i t := by
    intro i
    induction i with
    | zero => intro _; rw [hst00]; exact ⟨rfl, rfl, fun t => rfl⟩
    | succ i ih =>
      intro hi
      obtain ⟨h1, h2, h3⟩ := ih (by omega)
      obtain ⟨o, ho, he, _⟩ := hget i (by omega)
      rw [he]
      refine ⟨by rw [put_len]; exact h1, by rw [put_bx]; exact h2, fun t => ?_⟩
      rw [put_get, h1, h3]
      simp [view, dst, ho]
  have hpair : ∀ k j, k < n → j < n → k < j → ∀ x y, l[k]? = some x → l[j]? = some y → Region.waitsFor .any l.toArray j k = true ∨ x.apart l.toArray y = true := by
    intro k j hk hj hkj x y hx hy
    have h1 := List.all_eq_true.1 hpairs k (List.mem_range.2 hk)
    have h2 := List.all_eq_true.1 h1 j (List.mem_range.2 hj)
    simp only [Bool.or_eq_true] at h2
    rcases h2 with (h2 | h2) | h2
    · have := Nat.le_of_ble_eq_true h2; omega
    · exact .inl h2
    · simp only [List.getElem?_toArray, hx, hy] at h2
      exact .inr h2
  refine wp_region_any hm ?_
  -- whatever order, from any state that is reached
  have head : ∀ (f : Nat) (listed : Array Bool) (a : Act) (w : World), todo n listed = f → HeadInv .any l.toArray n listed → a.defers = [] → a.tmps.size = s.sl.length →
      (∀ t lv, view dst v s.sl (fun j => listed.getD j false) n t = some lv → LV.rel w (Av E.A0 M s.bx) M lv (a.tmps.getD t undef)) → Boxes E M w s.bx →
      wpAny P .any l.toArray (Lift E Q) (f + (l.length - n)) listed a w := by
    intro f
    induction f with
    | zero =>
      intro listed a w htodo inv hdef hsz hslots hbx
      have hall := todo_zero htodo
      have hlist : listed = headListed n l.toArray.size := listed_eq inv.size (by simpa using hnle') hall (fun i h1 h2 => inv.tail i h1 h2)
      rw [Nat.zero_add]
      have hstn' : St E M w a s1 := by
        rw [← hstn]
        obtain ⟨h1, h2, h3⟩ := hstsl n (Nat.le_refl _)
        refine ⟨hdef, by rw [hsz, h1], fun t lv hlv => ?_, by rw [h2]; exact hbx⟩
        rw [h2]
        rw [h3] at hlv
        refine hslots t lv ?_
        have key : ∀ m, m ≤ n → view dst v s.sl (fun j => listed.getD j false) m t = view dst v s.sl (fun _ => true) m t := by
          intro m
          induction m with
          | zero => intro _; rfl
          | succ m ih => intro hm; simp only [view]; rw [ih (by omega)]; simp only [hall m (by omega)]
        rw [key n (Nat.le_refl _)]
        exact hlv
      have hdl : (l.drop n).length = l.length - n := by simp
      have := wpAny_of_seq (md := .any) (ops := l.toArray) (P := P) (Q' := Lift E Q) (l.drop n) n listed a w (fun j => by simp [List.getElem?_drop]) (by rw [hdl, hlist]; simpa using hseq) (htail E M w a hbase hstn')
      rwa [hdl] at this
    | succ f ih =>
      intro listed a w htodo inv hdef hsz hslots hbx
      rw [show f + 1 + (l.length - n) = (f + (l.length - n)) + 1 by omega]
      obtain ⟨i0, hi0, hl0, hbef⟩ := exists_todo htodo
      have hready0 : i0 ∈ Region.ready .any l.toArray listed := by
        obtain ⟨o, ho, _, _⟩ := hget i0 hi0
        refine mem_ready.2 ⟨getD_in (by rw [inv.size]; simp; omega) hl0, o, by simpa using ho, fun e he hbnd => ?_⟩
        have hb := List.all_eq_true.1 hback i0 (List.mem_range.2 hi0)
        simp only [List.getElem?_toArray, ho] at hb
        have := Array.all_eq_true_iff_forall_mem.1 hb e he
        simp only [hbnd, Bool.not_true, Bool.false_or] at this
        exact hbef e.on (by simpa [Nat.blt_eq] using this)
      refine ⟨fun h0 => (by rw [h0] at hready0; cases hready0), fun i hi => ?_⟩
      obtain ⟨hun, o, hoi, hall⟩ := mem_ready.1 hi
      have hisz : i < l.length := by
        have := (Array.getElem?_eq_some_iff.1 hoi).1
        simpa using this
      have hin : i < n := by
        rcases Nat.lt_or_ge i n with h | h
        · exact h
        · rcases Bool.or_eq_true _ _ ▸ hsink with hsink | hsink
          · have : n = l.length := by simpa using hsink
            omega
          · simp only [Bool.and_eq_true] at hsink
            exact absurd hi (tail_waits hsink.1 hsink.2 (by simp; omega) inv _ i0 rfl hi0 (getD_in (by rw [inv.size]; simp; omega) hl0) i h)
      have hXi : listed.getD i false = false := getD_both hun
      have hoi' : l[i]? = some o := by simpa using hoi
      obtain ⟨o', ho', hst1, hgood⟩ := hget i hin
      have : o' = o := Option.some.inj (ho'.symm.trans hoi')
      subst this
      have hwait : ∀ j k, Region.waitsFor .any l.toArray j k = true → listed.getD j false = true → listed.getD k false = true := by
        intro j k hw hl
        obtain ⟨oj, hoj, e, he, hb, hon⟩ := Region.waitsFor_spec hw
        rw [← hon]
        exact inv.closed j oj hoj hl e he hb
      have hdstj : ∀ j t, dst j = some t → ∃ oj, l[j]? = some oj ∧ oj.dst = some t := by
        intro j t hj
        simp only [dst] at hj
        cases hlj : l[j]? with
        | none => simp [hlj] at hj
        | some oj => exact ⟨oj, rfl, by simpa [hlj] using hj⟩
      have hlook : ∀ t ∈ o'.looksAt l.toArray, ∀ lv, (st i).sl[t]? = some lv → LV.rel w (Av E.A0 M s.bx) M lv (a.tmps.getD t undef) := by
        intro t ht lv hlv
        rw [(hstsl i (by omega)).2.2] at hlv
        refine hslots t lv ?_
        rw [view_same (i := i) hXi n (fun j hj hdj => ?_) (fun j hij hjn hdj => ?_), Nat.min_eq_right (by omega)]
        · exact hlv
        · obtain ⟨oj, hoj, hdo⟩ := hdstj j t hdj
          rcases hpair j i (by omega) hin hj oj o' hoj hoi' with h1 | h1
          · obtain ⟨oo, hoo, e, he, hb, hon⟩ := Region.waitsFor_spec h1
            have : oo = o' := Option.some.inj (hoo.symm.trans hoi)
            subst this
            rw [← hon]
            exact hall e he hb
          · exact absurd ht ((Oper.apart_spec h1).1 t hdo)
        · obtain ⟨oj, hoj, hdo⟩ := hdstj j t hdj
          rcases hpair i j hin hjn hij o' oj hoi' hoj with h1 | h1
          · cases hlj : listed.getD j false with
            | false => rfl
            | true => rw [hwait j i h1 hlj] at hXi; cases hXi
          · exact absurd ht ((Oper.apart_spec h1).2.2 t hdo)
      have hszi : a.tmps.size = (st i).sl.length := by rw [hsz, (hstsl i (by omega)).1]
      have hbxi : (st i).bx = s.bx := (hstsl i (by omega)).2.1
      have next : ∀ (val : Value) (w' : World), Below w.heap.size w w' → LV.rel w' (Av E.A0 M s.bx) M (v i) val → wpAny P .any l.toArray (Lift E Q) (f + (l.length - n)) (listed.setIfInBounds i true) (a.put o'.dst val) w' := by
        intro val w' hbel hval
        have hls : i < listed.size := by rw [inv.size]; simp; omega
        refine ih _ _ w' (by have := todo_set hin hls hXi; omega) (inv.set hi hin) (by cases hdd : o'.dst <;> simp [Act.put, hdd, hdef]) (by cases hdd : o'.dst <;> simp [Act.put, hdd, hsz]) (fun t lv hlv => ?_) (hbx.below hbel)
        have hX' : (fun j => (listed.setIfInBounds i true).getD j false) = fun j => listed.getD j false || j == i := by
          funext j
          by_cases hj : i = j
          · subst hj; simp [hls]
          · rw [getD_set_ne false hj]
            have : (j == i) = false := by simpa using fun e => hj e.symm
            simp [this]
        rw [hX', view_after (i := i) hXi n (fun j t hij hjn hdi hdj => by
          obtain ⟨oj, hoj, hdo⟩ := hdstj j t hdj
          rcases hpair i j hin hjn hij o' oj hoi' hoj with h1 | h1
          · cases hlj : listed.getD j false with
            | false => rfl
            | true => rw [hwait j i h1 hlj] at hXi; cases hXi
          · have hdi' : o'.dst = some t := by simpa [dst, hoi'] using hdi
            exact absurd hdo ((Oper.apart_spec h1).2.1 t hdi')) t] at hlv
        have hdi : dst i = o'.dst := by simp [dst, hoi']
        rw [hdi] at hlv
        split at hlv
        · rename_i hc
          cases hlv
          have hlt : t < a.tmps.size := by rw [hsz]; exact hc.2.2
          rw [hc.2.1]
          simpa [Act.put, hlt] using hval
        · rename_i hc
          have hold := (hslots t lv hlv).mono (Keeps.below hbel)
          have hlt : t < s.sl.length := by
            have : ∀ m, view dst v s.sl (fun j => listed.getD j false) m t = some lv → t < s.sl.length := by
              intro m
              induction m with
              | zero => intro h; exact (List.getElem?_eq_some_iff.1 h).1
              | succ m ih =>
                intro h
                simp only [view] at h
                split at h
                · rename_i hh; exact hh.2.2
                · exact ih h
            exact this n hlv
          have hne : o'.dst ≠ some t := fun e => hc ⟨hin, e, hlt⟩
          cases hdd : o'.dst with
          | none => simpa [Act.put, hdd] using hold
          | some d =>
            have : d ≠ t := fun e => hne (by rw [hdd, e])
            simpa [Act.put, hdd, this] using hold
      unfold wpOp
      simp only [hoi]
      obtain ⟨g, pp, b, hwb, hpp, hcase⟩ := hgood
      rw [wantB_sound' (w := w) (A := Av E.A0 M s.bx) (M := M) hwb hpp hszi hlook]
      rcases hcase with ⟨rfl, hv⟩ | ⟨rfl, hh, sd, hpv, hsd⟩
      · simp only [Bool.false_eq_true, if_false]
        exact next undef w (Below.refl _ _) (by rw [hv]; exact ud_rel)
      · simp only [if_true]
        rw [hbxi] at hpv
        refine .inl (pval_sound (P := P) (E := E) hpv hsd hbx (fun x hx => ?_) _ _ next)
        cases x with
        | tmp t =>
          simp only [DS.ev, Act.eval]
          cases ht : (st i).sl[t]? with
          | none => simp [List.getD, ht]; trivial
          | some lv =>
            simp only [List.getD, ht, Option.getD_some]
            refine hlook t ?_ lv ht
            exact List.mem_append_left _ (List.mem_filterMap.2 ⟨.tmp t, by simpa using hx, rfl⟩)
        | const c => exact ofConst_rel c
        | global g => exact RelD.con _ rfl
        | func f => exact ⟨#[], rfl, rfl, fun j c hj => by simp at hj⟩
  have hdrew : Below w0.heap.size w0 w0.drew := (Below.refl _ _).drew
  have hst1 := hst0.below hdrew
  have hrep : todo n (Array.replicate l.toArray.size false) = n := by
    unfold todo
    have : ((List.range n).filter fun i => !(Array.replicate l.toArray.size false).getD i false) = List.range n := by
      rw [List.filter_eq_self]
      intro k _
      rw [getD_replicate_false]; rfl
    rw [this]; simp
  have := head n (Array.replicate l.toArray.size false) a0 w0.drew hrep
    ⟨by simp, fun j oj _ hl => (by rw [getD_replicate_false] at hl; cases hl), fun t _ ht => getD_in (by simpa using ht) (getD_replicate_false _ _)⟩ hst1.defers hst1.size (fun t lv hlv => by
      refine hst1.slots t lv ?_
      have : ∀ m, view dst v s.sl (fun j => (Array.replicate l.toArray.size false).getD j false) m t = s.sl[t]? := by
        intro m
        induction m with
        | zero => rfl
        | succ m ih => simp only [view]; rw [ih]; simp only [getD_replicate_false]; simp
      rw [← this n]; exact hlv) hst1.boxes
  rw [show n + (l.length - n) = l.toArray.size by simp; omega] at this
  exact this
end
end Go.DL
