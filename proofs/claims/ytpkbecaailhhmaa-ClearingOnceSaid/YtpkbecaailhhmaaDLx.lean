/-
  The data-level framework, part x: regions that draw their order and hold one allocation and one store into what it made. Generic in the program; no condition.
-/
import Derived.Test.YtpkbecaailhhmaaDLw
set_option linter.unusedVariables false
set_option linter.unusedSimpArgs false
namespace Go.DL
open Go.RowKit

/-- The operations that only make values, and two others: one that makes a box, and one that stores into it. -/
def pexecS (P : Program) (ops : Array Oper) (m m2 : Nat) (lv0 : LV) : List Oper → List Hint → Nat → DS → Option (Prop × List LV × DS)
  | [], _, _, s => some (True, [], s)
  | o :: os, hs, k, s =>
    match k == m || k == m2 with
    | true => match pexecS P ops m m2 lv0 os hs.tail (k + 1) (s.put o.dst lv0) with
      | some (q, vs, s') => some (q, lv0 :: vs, s')
      | none => none
    | false => match wantB ops o s (hs.headD {}).g with
      | none => none
      | some (p, false) => match pexecS P ops m m2 lv0 os hs.tail (k + 1) (s.put o.dst UD) with
        | some (q, vs, s') => some (p ∧ q, UD :: vs, s')
        | none => none
      | some (p, true) => match pval P s.ev s.bx (hs.headD {}).d o with
        | none => none
        | some (r, lv) => match pexecS P ops m m2 lv0 os hs.tail (k + 1) (s.put o.dst lv) with
          | some (q, vs, s') => some (p ∧ r ∧ q, lv :: vs, s')
          | none => none


/-- What a list of results makes of the slots. -/
def putAll : List Oper → List LV → DS → DS
  | o :: os, v :: vs, s => putAll os vs (s.put o.dst v)
  | _, _, s => s
theorem putAll_snoc : ∀ (l : List Oper) (vs : List LV) (s : DS) (i : Nat) (o : Oper) (v : LV), l[i]? = some o → vs[i]? = some v → putAll (l.take (i + 1)) (vs.take (i + 1)) s = (putAll (l.take i) (vs.take i) s).put o.dst v
  | o' :: l, v' :: vs, s, 0, o, v, h1, h2 => by simp at h1 h2; subst h1; subst h2; simp [putAll]
  | o' :: l, v' :: vs, s, i + 1, o, v, h1, h2 => by
    simp only [List.take_succ_cons, putAll]
    exact putAll_snoc l vs _ i o v (by simpa using h1) (by simpa using h2)
  | [], _, _, _, _, _, h1, _ => by simp at h1
  | _ :: _, [], _, _, _, _, _, h2 => by simp at h2
theorem putAll_st {l : List Oper} {vs : List LV} {st : Nat → DS} : ∀ i, (∀ j, j < i → ∃ o v, l[j]? = some o ∧ vs[j]? = some v ∧ st (j + 1) = (st j).put o.dst v) → putAll (l.take i) (vs.take i) (st 0) = st i
  | 0, _ => by simp [putAll]
  | i + 1, h => by
    obtain ⟨o, v, h1, h2, h3⟩ := h i (by omega)
    rw [putAll_snoc l vs _ i o v h1 h2, putAll_st i (fun j hj => h j (by omega)), h3]
theorem eStore_bx {P : Program} {s s2 s' : DS} {T : TypeId} {x y : LV} {q : Prop} (hb : s2.bx = s.bx) (h : eStore P s T x y none = some (q, s')) : eStore P s2 T x y none = some (q, ⟨s2.sl, s'.bx⟩) := by
  unfold eStore at h ⊢
  rw [hb]
  cases hi : P.info? T with
  | none => simp [hi] at h
  | some i =>
    cases hc : y.cs s.bx with
    | none => simp [hi, hc] at h
    | some cs =>
      simp only [hi, hc] at h ⊢
      cases hf : (cs.length == i.size && cs.all (C.fit s.bx)) with
      | false => simp [hf] at h
      | true =>
        simp only [hf] at h ⊢
        split at h
        · rename_i id off
          cases hl : s.bx.lookup id with
          | none => simp [hl] at h
          | some bb =>
            cases bb with
            | row e sz es => simp [hl] at h
            | var cs0 =>
              simp only [hl] at h ⊢
              cases hle : Nat.ble (off + cs.length) cs0.length with
              | false => simp [hle] at h
              | true =>
                simp only [hle, Option.some.injEq, Prod.mk.injEq] at h ⊢
                obtain ⟨h3, h4⟩ := h
                refine ⟨h3, ?_⟩
                rw [← h4]
                simp [DS.setBox, hb]
        · simp at h
        · cases h

section
variable {P : Program} {w : World} {A : Nat → Prop} {M : BMap}

theorem pexecS_steps {ops : Array Oper} {m m2 : Nat} {lv0 : LV} : ∀ (l : List Oper) (hs : List Hint) (k : Nat) (s s' : DS) (vs : List LV) (side : Prop), pexecS P ops m m2 lv0 l hs k s = some (side, vs, s') → side →
    vs.length = l.length ∧ ∃ (st : Nat → DS), st 0 = s ∧ st l.length = s' ∧ ∀ i o, l[i]? = some o → ∃ v, vs[i]? = some v ∧ st (i + 1) = (st i).put o.dst v ∧ (k + i = m ∨ k + i = m2 → v = lv0) ∧ (¬ (k + i = m ∨ k + i = m2) → Good P ops (st i) o v)
  | [], hs, k, s, s', vs, side, h, _ => by
    simp only [pexecS, Option.some.injEq, Prod.mk.injEq] at h
    obtain ⟨_, rfl, rfl⟩ := h
    exact ⟨rfl, fun _ => s, rfl, rfl, fun i o hi => by simp at hi⟩
  | o :: os, hs, k, s, s', vs, side, h, hside => by
    unfold pexecS at h
    have cons : ∀ (v0 : LV) (q : Prop) (ws : List LV), pexecS P ops m m2 lv0 os hs.tail (k + 1) (s.put o.dst v0) = some (q, ws, s') → q → (k = m ∨ k = m2 → v0 = lv0) → (¬ (k = m ∨ k = m2) → Good P ops s o v0) →
        (v0 :: ws).length = (o :: os).length ∧ ∃ (st : Nat → DS), st 0 = s ∧ st (o :: os).length = s' ∧ ∀ i o', (o :: os)[i]? = some o' → ∃ v, (v0 :: ws)[i]? = some v ∧ st (i + 1) = (st i).put o'.dst v ∧ (k + i = m ∨ k + i = m2 → v = lv0) ∧ (¬ (k + i = m ∨ k + i = m2) → Good P ops (st i) o' v) := by
      intro v0 q ws hq hqs hm hg
      obtain ⟨hl, st, h1, h2, h3⟩ := pexecS_steps os hs.tail (k + 1) _ s' ws q hq hqs
      refine ⟨by simp [hl], fun i => match i with | 0 => s | i + 1 => st i, rfl, h2, fun i o' hi => ?_⟩
      cases i with
      | zero => simp at hi; subst hi; exact ⟨v0, rfl, h1, fun e => hm (by omega), fun e => hg (by omega)⟩
      | succ i =>
        obtain ⟨v, g1, g2, g3, g4⟩ := h3 i o' (by simpa using hi)
        exact ⟨v, by simpa using g1, g2, fun e => g3 (by omega), fun e => g4 (by omega)⟩
    split at h
    · rename_i hk
      have hk' : k = m ∨ k = m2 := by simpa using hk
      split at h
      · rename_i q ws s2 h2
        simp only [Option.some.injEq, Prod.mk.injEq] at h
        obtain ⟨h1, rfl, rfl⟩ := h
        rw [← h1] at hside
        exact cons _ q ws h2 hside (fun _ => rfl) (fun e => absurd hk' e)
      · cases h
    · rename_i hk
      have hk' : ¬ (k = m ∨ k = m2) := by simpa using hk
      split at h
      · cases h
      · rename_i p hw
        split at h
        · rename_i q ws s2 h2
          simp only [Option.some.injEq, Prod.mk.injEq] at h
          obtain ⟨h1, rfl, rfl⟩ := h
          rw [← h1] at hside
          exact cons _ q ws h2 hside.2 (fun e => absurd e hk') fun _ => ⟨_, p, false, hw, hside.1, .inl ⟨rfl, rfl⟩⟩
        · cases h
      · rename_i p hw
        split at h
        · cases h
        · rename_i r lv h3
          split at h
          · rename_i q ws s2 h2
            simp only [Option.some.injEq, Prod.mk.injEq] at h
            obtain ⟨h1, rfl, rfl⟩ := h
            rw [← h1] at hside
            exact cons _ q ws h2 hside.2.2 (fun e => absurd e hk') fun _ => ⟨_, p, true, hw, hside.1, .inr ⟨rfl, _, r, h3, hside.2.1⟩⟩
          · cases h


def dexecDrawS (P : Program) (base : Nat) (l : List Oper) (n m m2 d : Nat) (t T0 : TypeId) (x0 y0 : Operand) (hs : List Hint) (s : DS) : Option (Prop × List LV × List LV × List LV × DS) :=
  match zeroC P t with
  | none => none
  | some cs => match pexecS P l.toArray m m2 (.one (.ref (base + d) 0)) (l.take n) hs 0 (s.drop (base + d)) with
    | none => none
    | some (p, vs, _) => match eStore P (putAll (l.take m2) (vs.take m2) ((s.drop (base + d)).push (base + d) (.var cs))) T0 ((putAll (l.take m2) (vs.take m2) ((s.drop (base + d)).push (base + d) (.var cs))).ev x0) ((putAll (l.take m2) (vs.take m2) ((s.drop (base + d)).push (base + d) (.var cs))).ev y0) none with
      | none => none
      | some (qS, sS) => match pexecS P l.toArray m m2 (.one (.ref (base + d) 0)) (l.take n) hs 0 ((s.drop (base + d)).push (base + d) (.var cs)) with
        | none => none
        | some (p', vs', _) => match pexecS P l.toArray m m2 (.one (.ref (base + d) 0)) (l.take n) hs 0 ⟨(s.drop (base + d)).sl, sS.bx⟩ with
          | none => none
          | some (p'', vs'', s1) => match dexec P base l.toArray (l.drop n) (hs.drop n) s1 with
            | none => none
            | some (q, s2) => some (p ∧ p' ∧ p'' ∧ qS ∧ q, vs, vs', vs'', s2)

theorem T_drawS {base rid : Nat} {l : List Oper} {Q : DX → DS → Prop} {s : DS} (n m m2 d : Nat) (t0 T0 : TypeId) (x0 y0 : Operand) (hs : List Hint) (s' : DS) (side : Prop) (hm : P.follows .mixedOrders = true) (hok : drawOk l.toArray n = true)
    (hmn : Nat.blt m2 n = true) (hmm : Region.waitsFor .any l.toArray m2 m = true) (hlt0 : Nat.blt m m2 = true) (hop : (l[m]?).map (fun o => (o.op, o.dst, o.guard)) = some (.alloc t0, some d, none)) (hop2 : (l[m2]?).map (fun o => (o.op, o.dst, o.guard)) = some (.store T0 x0 y0, none, none))
    (h : (dexecDrawS P base l n m m2 d t0 T0 x0 y0 hs s).map (fun r => (r.1, r.2.2.2.2)) = some (side, s'))
    (hv : (dexecDrawS P base l n m m2 d t0 T0 x0 y0 hs s).map (fun r => (r.2.1, r.2.1, fixVals l.toArray m (base + d) 0 r.2.1)) = (dexecDrawS P base l n m m2 d t0 T0 x0 y0 hs s).map (fun r => (r.2.2.1, r.2.2.2.1, r.2.1)))
    (hside : side) (hq : Q .normal s') : T P base (.region rid l.toArray true) Q s := by
  intro E M00 w0 a0 hbase hst00
  obtain ⟨M0, hst0⟩ := DS.le_drop s (base + d) E M00 w0 a0 hst00
  generalize hid : base + d = id at *
  unfold dexecDrawS at h hv
  rw [hid] at h hv
  cases hz : zeroC P t0 with
  | none => rw [hz] at h; cases h
  | some cs =>
  simp only [hz] at h hv
  cases h1 : pexecS P l.toArray m m2 (.one (.ref id 0)) (l.take n) hs 0 (s.drop id) with
  | none => rw [h1] at h; cases h
  | some r1 =>
  obtain ⟨p, vs, s1F⟩ := r1
  simp only [h1] at h hv
  generalize hsm : putAll (l.take m2) (vs.take m2) ((s.drop id).push id (.var cs)) = sm at h hv
  cases hst : eStore P sm T0 (sm.ev x0) (sm.ev y0) none with
  | none => rw [hst] at h; cases h
  | some rS =>
  obtain ⟨qS, sS⟩ := rS
  simp only [hst] at h hv
  cases h2 : pexecS P l.toArray m m2 (.one (.ref id 0)) (l.take n) hs 0 ((s.drop id).push id (.var cs)) with
  | none => rw [h2] at h; cases h
  | some r2 =>
  obtain ⟨p', vs', s1T⟩ := r2
  simp only [h2] at h hv
  cases h2' : pexecS P l.toArray m m2 (.one (.ref id 0)) (l.take n) hs 0 ⟨(s.drop id).sl, sS.bx⟩ with
  | none => rw [h2'] at h; cases h
  | some r2' =>
  obtain ⟨p'', vs'', s1⟩ := r2'
  simp only [h2'] at h hv
  cases h3 : dexec P base l.toArray (l.drop n) (hs.drop n) s1 with
  | none => rw [h3] at h; cases h
  | some r3 =>
  obtain ⟨q, s2⟩ := r3
  simp only [h3, Option.map_some, Option.some.injEq, Prod.mk.injEq] at h hv
  obtain ⟨hv1, hv1', hv2⟩ := hv
  obtain ⟨hsd, rfl⟩ := h
  rw [← hsd] at hside
  rw [← hv1] at h2
  rw [← hv1'] at h2'
  obtain ⟨hlenv, stF, hF0, hFn, hFs⟩ := pexecS_steps _ _ _ _ _ _ _ h1 hside.1
  obtain ⟨_, stT, hT0, hTn, hTs⟩ := pexecS_steps _ _ _ _ _ _ _ h2 hside.2.1
  obtain ⟨_, stS, hS0, hSn, hSs⟩ := pexecS_steps _ _ _ _ _ _ _ h2' hside.2.2.1
  have hqS := hside.2.2.2.1
  have htail := dexec_sound (P := P) (base := base) (Q := Q) _ _ _ _ _ h3 hside.2.2.2.2 hq
  have hm2n : m2 < n := by simpa [Nat.blt_eq] using hmn
  have hmm2 : m < m2 := by simpa [Nat.blt_eq] using hlt0
  have hmn' : m < n := by omega
  simp only [drawOk, Bool.and_eq_true] at hok
  obtain ⟨⟨⟨⟨⟨hsel, hnle⟩, hpairs⟩, hback⟩, hsink⟩, hseq⟩ := hok
  have hnle' : n ≤ l.length := by simpa using Nat.le_of_ble_eq_true hnle
  have htl : (l.take n).length = n := by simp; omega
  rw [htl] at hFn hTn hSn hlenv
  let v : Nat → LV := fun i => vs.getD i (.one .junk)
  have hgetF : ∀ i, i < n → ∃ o, l[i]? = some o ∧ stF (i + 1) = (stF i).put o.dst (v i) ∧ (i = m ∨ i = m2 → v i = .one (.ref id 0)) ∧ (¬ (i = m ∨ i = m2) → Good P l.toArray (stF i) o (v i)) := by
    intro i hi
    have hlt : i < l.length := by omega
    obtain ⟨u, g1, g2, g3, g4⟩ := hFs i l[i] (by rw [List.getElem?_take, if_pos hi, List.getElem?_eq_getElem hlt])
    have : v i = u := by simp [v, List.getD, g1]
    rw [Nat.zero_add] at g3 g4
    exact ⟨l[i], List.getElem?_eq_getElem hlt, by rw [this]; exact g2, by rw [this]; exact g3, by rw [this]; exact g4⟩
  have hgetT : ∀ i, i < n → ∃ o, l[i]? = some o ∧ stT (i + 1) = (stT i).put o.dst (v i) ∧ (i = m ∨ i = m2 → v i = .one (.ref id 0)) ∧ (¬ (i = m ∨ i = m2) → Good P l.toArray (stT i) o (v i)) := by
    intro i hi
    have hlt : i < l.length := by omega
    obtain ⟨u, g1, g2, g3, g4⟩ := hTs i l[i] (by rw [List.getElem?_take, if_pos hi, List.getElem?_eq_getElem hlt])
    have : v i = u := by simp [v, List.getD, g1]
    rw [Nat.zero_add] at g3 g4
    exact ⟨l[i], List.getElem?_eq_getElem hlt, by rw [this]; exact g2, by rw [this]; exact g3, by rw [this]; exact g4⟩
  have hgetS : ∀ i, i < n → ∃ o, l[i]? = some o ∧ stS (i + 1) = (stS i).put o.dst (v i) ∧ (i = m ∨ i = m2 → v i = .one (.ref id 0)) ∧ (¬ (i = m ∨ i = m2) → Good P l.toArray (stS i) o (v i)) := by
    intro i hi
    have hlt : i < l.length := by omega
    obtain ⟨u, g1, g2, g3, g4⟩ := hSs i l[i] (by rw [List.getElem?_take, if_pos hi, List.getElem?_eq_getElem hlt])
    have : v i = u := by simp [v, List.getD, g1]
    rw [Nat.zero_add] at g3 g4
    exact ⟨l[i], List.getElem?_eq_getElem hlt, by rw [this]; exact g2, by rw [this]; exact g3, by rw [this]; exact g4⟩
  let s0 : DS := s.drop id
  let bxA : Nat → List (Nat × Box) := fun b => match b with | 0 => s0.bx | 1 => (id, .var cs) :: s0.bx | _ => sS.bx
  let ph : Array Bool → Nat := fun listed => match listed.getD m2 false, listed.getD m false with | true, _ => 2 | false, true => 1 | false, false => 0
  let dst : Nat → Option Tmp := fun i => (l[i]?).bind (·.dst)
  have hgood : ∀ b : Nat, b ≤ 2 → ∃ st : Nat → DS, (∀ i, i < n → ∃ o, l[i]? = some o ∧ (¬ (i = m ∨ i = m2) → Good P l.toArray (st i) o (v i))) ∧
      ∀ i, i ≤ n → (st i).sl.length = s0.sl.length ∧ (st i).bx = bxA b ∧ ∀ t, (st i).sl[t]? = view dst v s0.sl (fun _ => true) i t := by
    intro b hb2
    match b, hb2 with
    | 0, _ =>
      have := st_view (l := l) (n := n) (v := v) (st := stF) fun i hi => let ⟨o, a1, a2, _⟩ := hgetF i hi; ⟨o, a1, a2⟩
      rw [hF0] at this
      exact ⟨stF, fun i hi => let ⟨o, a1, _, _, a4⟩ := hgetF i hi; ⟨o, a1, a4⟩, this⟩
    | 1, _ =>
      have := st_view (l := l) (n := n) (v := v) (st := stT) fun i hi => let ⟨o, a1, a2, _⟩ := hgetT i hi; ⟨o, a1, a2⟩
      rw [hT0] at this
      exact ⟨stT, fun i hi => let ⟨o, a1, _, _, a4⟩ := hgetT i hi; ⟨o, a1, a4⟩, this⟩
    | 2, _ =>
      have := st_view (l := l) (n := n) (v := v) (st := stS) fun i hi => let ⟨o, a1, a2, _⟩ := hgetS i hi; ⟨o, a1, a2⟩
      rw [hS0] at this
      exact ⟨stS, fun i hi => let ⟨o, a1, _, _, a4⟩ := hgetS i hi; ⟨o, a1, a4⟩, this⟩
  have hpair : ∀ k j, k < n → j < n → k < j → ∀ x y, l[k]? = some x → l[j]? = some y → Region.waitsFor .any l.toArray j k = true ∨ x.apart l.toArray y = true := by
    intro k j hk hj hkj x y hx hy
    have h1 := List.all_eq_true.1 hpairs k (List.mem_range.2 hk)
    have h2 := List.all_eq_true.1 h1 j (List.mem_range.2 hj)
    simp only [Bool.or_eq_true] at h2
    rcases h2 with (h2 | h2) | h2
    · have := Nat.le_of_ble_eq_true h2; omega
    · exact .inl h2
    · simp only [List.getElem?_toArray, hx, hy] at h2
      exact .inr h2
  obtain ⟨om, hom, hopm⟩ := Option.map_eq_some_iff.1 hop
  simp only [Prod.mk.injEq] at hopm
  obtain ⟨hom1, hom2, hom3⟩ := hopm
  obtain ⟨oS, hoS, hopS⟩ := Option.map_eq_some_iff.1 hop2
  simp only [Prod.mk.injEq] at hopS
  obtain ⟨hoS1, hoS2, hoS3⟩ := hopS
  have hsmT : stT m2 = sm := by
    rw [← hsm, ← hT0]
    refine (putAll_st (l := l) (vs := vs) (st := stT) m2 fun i hi => ?_).symm
    obtain ⟨o, a1, a2, _⟩ := hgetT i (by omega)
    have hlt : i < vs.length := by omega
    exact ⟨o, v i, a1, by simp [v, List.getD, List.getElem?_eq_getElem hlt], a2⟩
  have hph : ∀ listed, ph listed ≤ 2 := fun listed => by simp only [ph]; split <;> omega
  refine wp_region_any hm ?_
  have head : ∀ (f : Nat) (listed : Array Bool) (a : Act) (w : World) (M : BMap), todo n listed = f → HeadInv .any l.toArray n listed → a.defers = [] → a.tmps.size = s0.sl.length →
      (∀ t lv, view dst v s0.sl (fun j => listed.getD j false) n t = some lv → LV.rel w (Av E.A0 M (bxA (ph listed))) M lv (a.tmps.getD t undef)) → Boxes E M w (bxA (ph listed)) →
      wpAny P .any l.toArray (Lift E Q) (f + (l.length - n)) listed a w := by
    intro f
    induction f with
    | zero =>
      intro listed a w M htodo inv hdef hsz hslots hbx
      have hall := todo_zero htodo
      have hlm : ph listed = 2 := by simp only [ph, hall m2 hm2n]
      rw [hlm] at hslots hbx
      have hlist : listed = headListed n l.toArray.size := listed_eq inv.size (by simpa using hnle') hall (fun i h1 h2 => inv.tail i h1 h2)
      rw [Nat.zero_add]
      have hstn' : St E M w a s1 := by
        rw [← hSn]
        have := st_view (l := l) (n := n) (v := v) (st := stS) fun i hi => let ⟨o, a1, a2, _⟩ := hgetS i hi; ⟨o, a1, a2⟩
        rw [hS0] at this
        obtain ⟨g1, g2, g3⟩ := this n (Nat.le_refl _)
        refine ⟨hdef, by rw [hsz, g1], fun t lv hlv => ?_, by rw [g2]; exact hbx⟩
        rw [g2]
        rw [g3] at hlv
        refine hslots t lv ?_
        have key : ∀ k, k ≤ n → view dst v s0.sl (fun j => listed.getD j false) k t = view dst v s0.sl (fun _ => true) k t := by
          intro k
          induction k with
          | zero => intro _; rfl
          | succ k ih => intro hk; simp only [view]; rw [ih (by omega)]; simp only [hall k (by omega)]
        rw [key n (Nat.le_refl _)]
        exact hlv
      have hdl : (l.drop n).length = l.length - n := by simp
      have := wpAny_of_seq (md := .any) (ops := l.toArray) (P := P) (Q' := Lift E Q) (l.drop n) n listed a w (fun j => by simp [List.getElem?_drop]) (by rw [hdl, hlist]; simpa using hseq) (htail E M w a hbase hstn')
      rwa [hdl] at this
    | succ f ih =>
      intro listed a w M htodo inv hdef hsz hslots hbx
      rw [show f + 1 + (l.length - n) = (f + (l.length - n)) + 1 by omega]
      obtain ⟨i0, hi0, hl0, hbef⟩ := exists_todo htodo
      have hready0 : i0 ∈ Region.ready .any l.toArray listed := by
        obtain ⟨o, ho, _, _⟩ := hgetF i0 hi0
        refine mem_ready.2 ⟨getD_in (by rw [inv.size]; simp; omega) hl0, o, by simpa using ho, fun e he hbnd => ?_⟩
        have hb := List.all_eq_true.1 hback i0 (List.mem_range.2 hi0)
        simp only [List.getElem?_toArray, ho] at hb
        have := Array.all_eq_true_iff_forall_mem.1 hb e he
        simp only [hbnd, Bool.not_true, Bool.false_or] at this
        exact hbef e.on (by simpa [Nat.blt_eq] using this)
      refine ⟨fun h0 => (by rw [h0] at hready0; cases hready0), fun i hi => ?_⟩
      obtain ⟨hun, o, hoi, hall⟩ := mem_ready.1 hi
      have hisz : i < l.length := by
        have := (Array.getElem?_eq_some_iff.1 hoi).1
        simpa using this
      have hin : i < n := by
        rcases Nat.lt_or_ge i n with h | h
        · exact h
        · rcases Bool.or_eq_true _ _ ▸ hsink with hsink | hsink
          · have : n = l.length := by simpa using hsink
            omega
          · simp only [Bool.and_eq_true] at hsink
            exact absurd hi (tail_waits hsink.1 hsink.2 (by simp; omega) inv _ i0 rfl hi0 (getD_in (by rw [inv.size]; simp; omega) hl0) i h)
      have hXi : listed.getD i false = false := getD_both hun
      have hoi' : l[i]? = some o := by simpa using hoi
      have hls : i < listed.size := by rw [inv.size]; simp; omega
      have hwait : ∀ j k, Region.waitsFor .any l.toArray j k = true → listed.getD j false = true → listed.getD k false = true := by
        intro j k hw hl
        obtain ⟨oj, hoj, e, he, hb, hon⟩ := Region.waitsFor_spec hw
        rw [← hon]
        exact inv.closed j oj hoj hl e he hb
      have hdstj : ∀ j t, dst j = some t → ∃ oj, l[j]? = some oj ∧ oj.dst = some t := by
        intro j t hj
        simp only [dst] at hj
        cases hlj : l[j]? with
        | none => simp [hlj] at hj
        | some oj => exact ⟨oj, rfl, by simpa [hlj] using hj⟩
      have hX' : (fun j => (listed.setIfInBounds i true).getD j false) = fun j => listed.getD j false || j == i := by
        funext j
        by_cases hj : i = j
        · subst hj; simp [hls]
        · rw [getD_set_ne false hj]
          have : (j == i) = false := by simpa using fun e => hj e.symm
          simp [this]
      have hview : ∀ t, view dst v s0.sl (fun j => (listed.setIfInBounds i true).getD j false) n t = if i < n ∧ dst i = some t ∧ t < s0.sl.length then some (v i) else view dst v s0.sl (fun j => listed.getD j false) n t := by
        intro t
        rw [hX']
        exact view_after (i := i) hXi n (fun j t hij hjn hdi hdj => by
          obtain ⟨oj, hoj, hdo⟩ := hdstj j t hdj
          rcases hpair i j hin hjn hij o oj hoi' hoj with h1 | h1
          · cases hlj : listed.getD j false with
            | false => rfl
            | true => rw [hwait j i h1 hlj] at hXi; cases hXi
          · have hdi' : o.dst = some t := by simpa [dst, hoi'] using hdi
            exact absurd hdo ((Oper.apart_spec h1).2.1 t hdi')) t
      have hdi : dst i = o.dst := by simp [dst, hoi']
      by_cases him : i = m
      · subst him
        have : om = o := Option.some.inj (hom.symm.trans hoi')
        subst this
        have hl2 : listed.getD m2 false = false := by
          cases hb : listed.getD m2 false with
          | false => rfl
          | true => rw [hwait m2 i hmm hb] at hXi; cases hXi
        have hp0 : ph listed = 0 := by simp only [ph, hl2, hXi]
        rw [hp0] at hslots hbx
        have hvm : v i = .one (.ref id 0) := by
          obtain ⟨_, _, _, g, _⟩ := hgetF i hin
          exact g (.inl rfl)
        let ds : DS := ⟨(List.range a.tmps.size).map fun t => (view dst v s0.sl (fun j => listed.getD j false) n t).getD (.one .junk), s0.bx⟩
        have hds : St E M w a ds := by
          refine ⟨hdef, by simp [ds], fun t lv hlv => ?_, hbx⟩
          simp only [ds, List.getElem?_map, Option.map_eq_some_iff] at hlv
          obtain ⟨t', ht', rfl⟩ := hlv
          have := (List.getElem?_eq_some_iff.1 ht')
          obtain ⟨hlt, he⟩ := this
          simp at he
          subst he
          cases hvw : view dst v s0.sl (fun j => listed.getD j false) n t with
          | none => trivial
          | some lv => exact hslots t lv hvw
        have he : estep P base om ds none = some (True, ((ds.drop id).push id (.var cs)).put (some d) (.one (.ref id 0))) := by
          simp only [estep, hom1, hom2, hz, hid]
        have hes := estep_sound (P := P) he trivial hds hbase
        unfold wpOp
        simp only [hoi]
        rw [show Region.wanted om (yielded l.toArray a.tmps) = true by simp [Region.wanted, hom3]]
        simp only [if_true]
        refine .inl (hes _ _ fun val w' M'' hst'' => ?_)
        have hlist' : ph (listed.setIfInBounds i true) = 1 := by
          have e1 : (listed.setIfInBounds i true).getD i false = true := by simp [hls]
          have e2 : (listed.setIfInBounds i true).getD m2 false = false := by rw [getD_set_ne false (by omega)]; exact hl2
          simp only [ph, e1, e2]
        have hbxe : ((ds.drop id).push id (.var cs)).bx = bxA 1 := by
          show (id, Box.var cs) :: (ds.drop id).bx = (id, Box.var cs) :: s0.bx
          rw [show (ds.drop id).bx = s0.bx from DS.drop_bx_drop id s _]
        refine ih _ _ w' M'' (by have := todo_set hin hls hXi; omega) (inv.set hi hin) hst''.defers (by simp [hom2, Act.put, hsz]) (fun t lv hlv => ?_) (by rw [hlist']; have := hst''.boxes; rwa [put_bx, hbxe] at this)
        rw [hlist']
        have hbx2 : (((ds.drop id).push id (.var cs)).put (some d) (.one (.ref id 0))).bx = bxA 1 := by rw [put_bx, hbxe]
        have hsl2 := hst''.slots
        rw [hbx2] at hsl2
        refine hsl2 t lv ?_
        rw [hview t] at hlv
        rw [put_get]
        rw [hdi, hom2] at hlv
        have hlen2 : ((ds.drop id).push id (.var cs)).sl.length = s0.sl.length := by simp [DS.drop, DS.push, ds, hsz]
        rw [hlen2]
        split at hlv
        · rename_i hc
          rw [if_pos ⟨hc.2.1, hc.2.2⟩, ← hlv, hvm]
        · rename_i hc
          have hlt := view_lt n hlv
          rw [if_neg (fun e => hc ⟨hin, e.1, e.2⟩)]
          simp only [DS.drop, DS.push, ds, List.map_map, List.getElem?_map]
          rw [List.getElem?_range (by rw [hsz]; exact hlt)]
          simp only [Option.map_some, Function.comp_apply, hlv, Option.getD_some, Option.some.injEq]
          rcases view_cases n hlv with hb | ⟨j, hjn, hXj, rfl⟩
          · simp only [s0, DS.drop, List.getElem?_map, Option.map_eq_some_iff] at hb
            obtain ⟨l0, _, rfl⟩ := hb
            exact LV.scrub_scrub id l0
          · have hjv : vs[j]? = some (v j) := by
              have : j < vs.length := by omega
              simp [v, List.getD, List.getElem?_eq_getElem this]
            rcases fixVals_get hv2 j _ hjv with hc2 | hc2
            · rw [Nat.zero_add] at hc2
              rcases hc2 with hc2 | hc2
              · subst hc2; rw [hXj] at hXi; cases hXi
              · rw [hwait j i hc2 hXj] at hXi; cases hXi
            · exact hc2
      by_cases him2 : i = m2
      · subst him2
        have : oS = o := Option.some.inj (hoS.symm.trans hoi')
        subst this
        have hl1 : listed.getD m false = true := by
          obtain ⟨oo, hoo, e, he, hb, hon⟩ := Region.waitsFor_spec hmm
          have : oo = oS := Option.some.inj (hoo.symm.trans hoi)
          subst this
          rw [← hon]
          exact hall e he hb
        have hp1 : ph listed = 1 := by simp only [ph, hXi, hl1]
        rw [hp1] at hslots hbx
        have hstsl : ∀ i, i ≤ n → (stT i).sl.length = s0.sl.length ∧ (stT i).bx = bxA 1 ∧ ∀ t, (stT i).sl[t]? = view dst v s0.sl (fun _ => true) i t := by
          have := st_view (l := l) (n := n) (v := v) (st := stT) fun i hi => let ⟨o, a1, a2, _⟩ := hgetT i hi; ⟨o, a1, a2⟩
          rw [hT0] at this
          exact this
        let ds : DS := ⟨(List.range a.tmps.size).map fun t => (view dst v s0.sl (fun j => listed.getD j false) n t).getD (.one .junk), bxA 1⟩
        have hds : St E M w a ds := by
          refine ⟨hdef, by simp [ds], fun t lv hlv => ?_, hbx⟩
          simp only [ds, List.getElem?_map, Option.map_eq_some_iff] at hlv
          obtain ⟨t', ht', rfl⟩ := hlv
          have := (List.getElem?_eq_some_iff.1 ht')
          obtain ⟨hlt, he⟩ := this
          simp at he
          subst he
          cases hvw : view dst v s0.sl (fun j => listed.getD j false) n t with
          | none => trivial
          | some lv => exact hslots t lv hvw
        have hlook : ∀ t ∈ oS.looksAt l.toArray, view dst v s0.sl (fun j => listed.getD j false) n t = (stT i).sl[t]? := by
          intro t ht
          rw [(hstsl i (by omega)).2.2, view_same (i := i) hXi n (fun j hj hdj => ?_) (fun j hij hjn hdj => ?_), Nat.min_eq_right (by omega)]
          · obtain ⟨oj, hoj, hdo⟩ := hdstj j t hdj
            rcases hpair j i (by omega) hin hj oj oS hoj hoi' with h1 | h1
            · obtain ⟨oo, hoo, e, he, hb, hon⟩ := Region.waitsFor_spec h1
              have : oo = oS := Option.some.inj (hoo.symm.trans hoi)
              subst this
              rw [← hon]
              exact hall e he hb
            · exact absurd ht ((Oper.apart_spec h1).1 t hdo)
          · obtain ⟨oj, hoj, hdo⟩ := hdstj j t hdj
            rcases hpair i j hin hjn hij oS oj hoi' hoj with h1 | h1
            · cases hlj : listed.getD j false with
              | false => rfl
              | true => rw [hwait j i h1 hlj] at hXi; cases hXi
            · exact absurd ht ((Oper.apart_spec h1).2.2 t hdo)
        have hev : ∀ x ∈ [x0, y0], ds.ev x = (stT i).ev x := by
          intro x hx
          cases x with
          | tmp t =>
            have ht : t ∈ oS.looksAt l.toArray := List.mem_append_left _ (List.mem_filterMap.2 ⟨.tmp t, by rw [hoS1]; simpa [Op.operands] using hx, rfl⟩)
            have h1 := hlook t ht
            simp only [DS.ev, List.getD]
            rw [← h1]
            simp only [ds, List.getElem?_map]
            by_cases hlt : t < a.tmps.size
            · rw [List.getElem?_range hlt]; simp
            · rw [List.getElem?_eq_none (by simpa using hlt)]
              cases hvw : view dst v s0.sl (fun j => listed.getD j false) n t with
              | none => rfl
              | some lv => have := view_lt n hvw; rw [← hsz] at this; exact absurd this hlt
          | const c => rfl
          | global g => rfl
          | func f => rfl
        have hst2 : eStore P ds T0 (ds.ev x0) (ds.ev y0) none = some (qS, ⟨ds.sl, sS.bx⟩) := by
          rw [hev x0 (by simp), hev y0 (by simp), hsmT]
          refine eStore_bx ?_ hst
          rw [← hsmT]
          exact ((hstsl i (by omega)).2.1).symm
        have he : estep P base oS ds none = some (qS, ⟨ds.sl, sS.bx⟩) := by
          simp only [estep, hoS1, hoS2]
          exact hst2
        have hes := estep_sound (P := P) he hqS hds hbase
        unfold wpOp
        simp only [hoi]
        rw [show Region.wanted oS (yielded l.toArray a.tmps) = true by simp [Region.wanted, hoS3]]
        simp only [if_true]
        refine .inl (hes _ _ fun val w' M'' hst'' => ?_)
        have hp2 : ph (listed.setIfInBounds i true) = 2 := by
          have e1 : (listed.setIfInBounds i true).getD i false = true := by simp [hls]
          simp only [ph, e1]
        have haa : a.put oS.dst val = a := by rw [hoS2]; rfl
        rw [haa] at hst'' ⊢
        refine ih _ _ w' M'' (by have := todo_set hin hls hXi; omega) (inv.set hi hin) hst''.defers hsz (fun t lv hlv => ?_) (by rw [hp2]; exact hst''.boxes)
        rw [hp2]
        rw [hview t, hdi, hoS2] at hlv
        rw [if_neg (by simp)] at hlv
        refine hst''.slots t lv ?_
        have hlt := view_lt n hlv
        simp only [ds, List.getElem?_map]
        rw [List.getElem?_range (by rw [hsz]; exact hlt)]
        simp only [Option.map_some, hlv, Option.getD_some]
      · obtain ⟨st, hgd, hstsl⟩ := hgood (ph listed) (hph listed)
        obtain ⟨o', ho', hgood'⟩ := hgd i hin
        have : o' = o := Option.some.inj (ho'.symm.trans hoi')
        subst this
        have hgood := hgood' (fun e => e.elim him him2)
        have hlook : ∀ t ∈ o'.looksAt l.toArray, ∀ lv, (st i).sl[t]? = some lv → LV.rel w (Av E.A0 M (bxA (ph listed))) M lv (a.tmps.getD t undef) := by
          intro t ht lv hlv
          rw [(hstsl i (by omega)).2.2] at hlv
          refine hslots t lv ?_
          rw [view_same (i := i) hXi n (fun j hj hdj => ?_) (fun j hij hjn hdj => ?_), Nat.min_eq_right (by omega)]
          · exact hlv
          · obtain ⟨oj, hoj, hdo⟩ := hdstj j t hdj
            rcases hpair j i (by omega) hin hj oj o' hoj hoi' with h1 | h1
            · obtain ⟨oo, hoo, e, he, hb, hon⟩ := Region.waitsFor_spec h1
              have : oo = o' := Option.some.inj (hoo.symm.trans hoi)
              subst this
              rw [← hon]
              exact hall e he hb
            · exact absurd ht ((Oper.apart_spec h1).1 t hdo)
          · obtain ⟨oj, hoj, hdo⟩ := hdstj j t hdj
            rcases hpair i j hin hjn hij o' oj hoi' hoj with h1 | h1
            · cases hlj : listed.getD j false with
              | false => rfl
              | true => rw [hwait j i h1 hlj] at hXi; cases hXi
            · exact absurd ht ((Oper.apart_spec h1).2.2 t hdo)
        have hszi : a.tmps.size = (st i).sl.length := by rw [hsz, (hstsl i (by omega)).1]
        have hbxi : (st i).bx = bxA (ph listed) := (hstsl i (by omega)).2.1
        have hlm : ph (listed.setIfInBounds i true) = ph listed := by simp only [ph]; rw [getD_set_ne false him, getD_set_ne false him2]
        have next : ∀ (val : Value) (w' : World), Below w.heap.size w w' → LV.rel w' (Av E.A0 M (bxA (ph listed))) M (v i) val → wpAny P .any l.toArray (Lift E Q) (f + (l.length - n)) (listed.setIfInBounds i true) (a.put o'.dst val) w' := by
          intro val w' hbel hval
          refine ih _ _ w' M (by have := todo_set hin hls hXi; omega) (inv.set hi hin) (by cases hdd : o'.dst <;> simp [Act.put, hdd, hdef]) (by cases hdd : o'.dst <;> simp [Act.put, hdd, hsz]) (fun t lv hlv => ?_) (by rw [hlm]; exact hbx.below hbel)
          rw [hlm]
          rw [hview t, hdi] at hlv
          split at hlv
          · rename_i hc
            cases hlv
            have hlt : t < a.tmps.size := by rw [hsz]; exact hc.2.2
            rw [hc.2.1]
            simpa [Act.put, hlt] using hval
          · rename_i hc
            have hold := (hslots t lv hlv).mono (Keeps.below hbel)
            have hlt := view_lt n hlv
            have hne : o'.dst ≠ some t := fun e => hc ⟨hin, e, hlt⟩
            cases hdd : o'.dst with
            | none => simpa [Act.put, hdd] using hold
            | some d =>
              have : d ≠ t := fun e => hne (by rw [hdd, e])
              simpa [Act.put, hdd, this] using hold
        unfold wpOp
        simp only [hoi]
        obtain ⟨g, pp, b, hwb, hpp, hcase⟩ := hgood
        rw [wantB_sound' (w := w) (A := Av E.A0 M (bxA (ph listed))) (M := M) hwb hpp hszi hlook]
        rcases hcase with ⟨rfl, hv⟩ | ⟨rfl, hh, sd, hpv, hsd⟩
        · simp only [Bool.false_eq_true, if_false]
          exact next undef w (Below.refl _ _) (by rw [hv]; exact ud_rel)
        · simp only [if_true]
          rw [hbxi] at hpv
          refine .inl (pval_sound (P := P) (E := E) hpv hsd hbx (fun x hx => ?_) _ _ next)
          cases x with
          | tmp t =>
            simp only [DS.ev, Act.eval]
            cases ht : (st i).sl[t]? with
            | none => simp [List.getD, ht]; trivial
            | some lv =>
              simp only [List.getD, ht, Option.getD_some]
              refine hlook t ?_ lv ht
              exact List.mem_append_left _ (List.mem_filterMap.2 ⟨.tmp t, by simpa using hx, rfl⟩)
          | const c => exact ofConst_rel c
          | global g => exact RelD.con _ rfl
          | func f => exact ⟨#[], rfl, rfl, fun j c hj => by simp at hj⟩
  have hph0 : ph (Array.replicate l.toArray.size false) = 0 := by simp only [ph, getD_replicate_false]
  have hdrew : Below w0.heap.size w0 w0.drew := (Below.refl _ _).drew
  have hst1 := hst0.below hdrew
  have hrep : todo n (Array.replicate l.toArray.size false) = n := by
    unfold todo
    have : ((List.range n).filter fun i => !(Array.replicate l.toArray.size false).getD i false) = List.range n := by
      rw [List.filter_eq_self]
      intro k _
      rw [getD_replicate_false]; rfl
    rw [this]; simp
  have := head n (Array.replicate l.toArray.size false) a0 w0.drew M0 hrep
    ⟨by simp, fun j oj _ hl => (by rw [getD_replicate_false] at hl; cases hl), fun t _ ht => getD_in (by simpa using ht) (getD_replicate_false _ _)⟩ hst1.defers hst1.size (fun t lv hlv => by
      rw [hph0]
      refine hst1.slots t lv ?_
      have : ∀ k, view dst v s0.sl (fun j => (Array.replicate l.toArray.size false).getD j false) k t = s0.sl[t]? := by
        intro k
        induction k with
        | zero => rfl
        | succ k ih => simp only [view]; rw [ih]; simp only [getD_replicate_false]; simp
      rw [← this n]; exact hlv) (by rw [hph0]; exact hst1.boxes)
  rw [show n + (l.length - n) = l.toArray.size by simp; omega] at this
  exact this


def wayDS (P : Program) (base : Nat) (l : List Oper) (n m m2 d : Nat) (t T0 : TypeId) (x0 y0 : Operand) (hs : List Hint) (live dead : List Nat) (s : DS) : Option (Prop × DS) :=
  (dexecDrawS P base l n m m2 d t T0 x0 y0 hs s).map fun r => (r.1, r.2.2.2.2.prune live dead)

theorem T_regDS {base rid : Nat} {l : List Oper} {Q : DX → DS → Prop} {s : DS} (n m m2 d : Nat) (t0 T0 : TypeId) (x0 y0 : Operand) (hs : List Hint) (live dead : List Nat) (s' : DS) (side : Prop) (hm : P.follows .mixedOrders = true) (hok : drawOk l.toArray n = true)
    (hmn : Nat.blt m2 n = true) (hmm : Region.waitsFor .any l.toArray m2 m = true) (hlt0 : Nat.blt m m2 = true) (hop : (l[m]?).map (fun o => (o.op, o.dst, o.guard)) = some (.alloc t0, some d, none)) (hop2 : (l[m2]?).map (fun o => (o.op, o.dst, o.guard)) = some (.store T0 x0 y0, none, none))
    (h : wayDS P base l n m m2 d t0 T0 x0 y0 hs live dead s = some (side, s'))
    (hv : (dexecDrawS P base l n m m2 d t0 T0 x0 y0 hs s).map (fun r => (r.2.1, r.2.1, fixVals l.toArray m (base + d) 0 r.2.1)) = (dexecDrawS P base l n m m2 d t0 T0 x0 y0 hs s).map (fun r => (r.2.2.1, r.2.2.2.1, r.2.1)))
    (hside : side) {y : Code} (hq : T P base y Q s') : T P base (.seq (.region rid l.toArray true) y) Q s := by
  unfold wayDS at h
  simp only [Option.map_eq_some_iff, Prod.mk.injEq] at h
  obtain ⟨⟨sd, v1, v2, v3, s1⟩, h1, rfl, rfl⟩ := h
  exact T_seq (T_drawS n m m2 d t0 T0 x0 y0 hs s1 sd hm hok hmn hmm hlt0 hop hop2 (by rw [h1]; rfl) hv hside (T_le (DS.le_prune s1 live dead) hq))
theorem Ret.to {f : FuncId} {ds : List D} {d d' : D} (h : Ret P f ds d) (e : d = d') : Ret P f ds d' := e ▸ h
end
end Go.DL
