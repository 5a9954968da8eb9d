/-
  The data-level framework, part k: append, at the data level. Generic in the program; no condition.
-/
import Derived.Test.YtpkbecaailhhmaaDLj
set_option linter.unusedVariables false
set_option linter.unusedSimpArgs false
namespace Go.DL
open Go.RowKit Go.Lib

/-- The row to which is appended. -/
def oldRow (bx : List (Nat × Box)) (e : TypeId) (sz : Nat) (x : LV) : Option (Option Nat × List D) :=
  match x with
  | .one (.dat (.con (.slice none 0 0))) => some (none, [])
  | .one (.own id) => match bx.lookup id with
    | some (.row e' sz' es) => match e' == e && sz' == sz with
      | true => some (some id, es)
      | false => none
    | _ => none
  | _ => none

def byteD (b : UInt8) : D := .int .u8 (b.toNat : Int)

/-- What is appended. -/
def srcRow (P : Program) (bx : List (Nat × Box)) (t t' : TypeId) (ie : TypeInfo) (y : LV) : Option (List D) :=
  match t' == t with
  | true => match y with
    | .one (.dat (.sl sz xs)) => match sz == ie.size with
      | true => some xs
      | false => none
    | .one (.dat (.con (.slice none 0 0))) => some []
    | .one (.own id) => match bx.lookup id with
      | some (.row _ sz xs) => match sz == ie.size with
        | true => some xs
        | false => none
      | _ => none
    | _ => none
  | false => match P.underlying t', ie.zero, ie.size == 1 && ie.bytes == 1, y with
    | some .string, some (.int .u8 0), true, .one (.dat (.str s)) => some (s.map byteD)
    | _, _, _, _ => none

def cellsOne (xs : List D) : Prop := ∀ d ∈ xs, ∀ c ∈ d.cells, c.one = true

def dropOpt (i : Option Nat) (s : DS) : DS :=
  match i with
  | some i => s.drop i
  | none => s

def hintRow (h : Option D) (es : List D) : Prop × List D :=
  match h with
  | some (.sl _ es') => (es = es', es')
  | _ => (True, es)

theorem hintRow_eq {h : Option D} {es : List D} (hs : (hintRow h es).1) : (hintRow h es).2 = es := by
  unfold hintRow at *
  split at hs
  · exact hs.symm
  · rfl

def eAppend (P : Program) (s : DS) (id : Nat) (d : Tmp) (t t' : TypeId) (x y : LV) (h : Option D) : Option (Prop × DS) :=
  match P.underlying t with
  | some (.slice e) => match P.info? e with
    | some ie => match ie.zero with
      | some z => match z.cells.size == ie.size && Nat.blt 0 ie.size && Nat.blt 0 ie.bytes with
        | true => match oldRow s.bx e ie.size x, srcRow P s.bx t t' ie y with
          | some (oid, es), some xs => some ((es.length + xs.length) * ie.bytes ≤ 140737488355328 ∧ cellsOne xs ∧ (hintRow h (es ++ xs)).1,
              (((dropOpt oid s).drop id).push id (.row e ie.size (hintRow h (es ++ xs)).2)).put (some d) (.one (.own id)))
          | _, _ => none
        | false => none
      | none => none
    | none => none
  | _ => none

section
variable {P : Program} {w : World} {A : Nat → Prop} {M : BMap}

/-- An append to a row of the call's own: its result lies in the old block or in a new one. -/
theorem run_append_own' (t ty e : TypeId) (i : TypeInfo) (z : Value) (ht : P.underlying t = some (.slice e)) (hi : P.info? e = some i) (hz : i.zero = some z) (hzs : z.cells.size = i.size) (hsz : 0 < i.size)
    (v : Value) (n : Nat) (xs : List Value) (hown : w.ownsRow 0 e i.size v n xs)
    (y : Value) (m : Nat) (news : List Value) (hl : news.length = m * i.size) (hy : (y = .slice none 0 0 ∧ m = 0) ∨ ∃ a c, y = .slice (some a) m c ∧ ∀ j u, news[j]? = some u → w.cell? (a.add j) = some u)
    (h1 : ∀ u ∈ news, u.oneCell' = true) (hb0 : 0 < i.bytes) (hbytes : (n + m) * i.bytes ≤ 140737488355328) :
    ∃ v' w', (Builtin.append_ #[t, t] ty #[v, y]).run P w = .ok v' w' ∧ w'.ownsRow 0 e i.size v' (n + m) (xs ++ news) ∧ w.grownBy w' v.ownBlock ∧ ∀ k, v'.ownBlock = some k → v.ownBlock = some k ∨ w.heap.size ≤ k := by
  have hle : n + m ≤ 140737488355328 := Nat.le_trans (Nat.le_mul_of_pos_right _ hb0) hbytes
  have h63 : n + m ≤ maxLen := by simp only [maxLen]; omega
  rcases hy with ⟨rfl, rfl⟩ | ⟨a, c, rfl, hnews⟩
  · have hn : news = [] := List.eq_nil_of_length_eq_zero (by simpa using hl)
    subst hn
    refine ⟨v, w, run_append_owned_none (P := P) (w := w) 0 t ty e i i.size ht hi v n xs hown, by simpa using hown, ⟨rfl, rfl, rfl, Nat.le_refl _, fun _ _ _ => rfl⟩, fun k hk => .inl hk⟩
  · obtain ⟨v', w', hr, h2, h3, _⟩ := run_append_own (P := P) w 0 t ty e i z i.size i.bytes ht hi hz rfl rfl hzs hsz v n xs hown a m c news hl hnews h1 h63 hbytes (Nat.zero_le _)
    refine ⟨v', w', hr, h2, h3, fun k hk => ?_⟩
    rcases hown.2 with ⟨rfl, rfl⟩ | ⟨g, cap, cur, rfl, _, hg, hnc, _, hcs, htake⟩
    · by_cases hm : m = 0
      · subst hm
        have hn : news = [] := List.eq_nil_of_length_eq_zero (by simpa using hl)
        subst hn
        have : (Builtin.append_ #[t, t] ty #[.slice none 0 0, .slice (some a) 0 c]).run P w = .ok (.slice none 0 0) w := by
          simp [Builtin.append_, run_underlying ht, sizeOf, typeInfo, hi, Builtin.lenOf, Builtin.firstCells, loadCells, loadCellsFrom]
        rw [hr] at this
        cases this
        simp [Value.ownBlock] at hk
      · have := run_append_nil (P := P) w t ty e i z ht hi hz a m c news hl hnews (by omega) (by omega) (by simp only [Nat.zero_add] at hbytes; omega)
        rw [hr] at this
        cases this
        simp only [Value.ownBlock, Option.some.injEq] at hk
        exact .inr (by omega)
    · by_cases hroom : n + m ≤ cap
      · have hfit : n * i.size + news.length ≤ cur.size := by rw [hl, hcs, ← Nat.add_mul]; exact Nat.mul_le_mul_right _ hroom
        have := run_append_room (P := P) w t ty e i ht hi g n cap cur hg a m c news hl hnews h1 hroom hfit
        rw [hr] at this
        cases this
        exact .inl hk
      · have holds : ∀ j u, xs[j]? = some u → w.cell? ((⟨g, 0, none⟩ : Addr).add j) = some u := hown.cells (g := g) rfl
        have := run_append_grow (P := P) w t ty e i z ht hi hz ⟨g, 0, none⟩ n cap xs hown.1 holds a m c news hl hnews (by omega) (by omega) (growslice_fits (by omega) hbytes)
        rw [hr] at this
        cases this
        simp only [Value.ownBlock, Option.some.injEq] at hk
        exact .inr (by omega)

theorem run_append_own_str' (t u ty e : TypeId) (i : TypeInfo) (ht : P.underlying t = some (.slice e)) (hu : P.underlying u = some .string) (hi : P.info? e = some i) (hz : i.zero = some (.int .u8 0)) (hs1 : i.size = 1) (hb1 : i.bytes = 1)
    (v : Value) (n : Nat) (xs : List Value) (hown : w.ownsRow 0 e 1 v n xs) (s : ByteArray) (hbytes : n + s.size ≤ 140737488355328) :
    ∃ v' w', (Builtin.append_ #[t, u] ty #[v, .string s]).run P w = .ok v' w' ∧ w'.ownsRow 0 e 1 v' (n + s.size) (xs ++ strCells s) ∧ w.grownBy w' v.ownBlock ∧ ∀ k, v'.ownBlock = some k → v.ownBlock = some k ∨ w.heap.size ≤ k := by
  have h63 : n + s.size ≤ maxLen := by simp only [maxLen]; omega
  obtain ⟨v', w', hr, h2, h3, _⟩ := run_append_own_string (P := P) w 0 t u ty e i ht hu hi hz hs1 hb1 v n xs hown s h63 hbytes (Nat.zero_le _)
  refine ⟨v', w', hr, h2, h3, fun k hk => ?_⟩
  rcases hown.2 with ⟨rfl, rfl⟩ | ⟨g, cap, cur, rfl, _, hg, hnc, _, hcs, htake⟩
  · by_cases hm : s.size = 0
    · have : (Builtin.append_ #[t, u] ty #[.slice none 0 0, .string s]).run P w = .ok (.slice none 0 0) w := by
        simp [Builtin.append_, run_underlying ht, run_underlying hu, sizeOf, typeInfo, hi, Builtin.lenOf, Builtin.firstCells, hm]
      rw [hr] at this
      cases this
      simp [Value.ownBlock] at hk
    · have := run_append_nil_string (P := P) w t u ty e i _ ht hu hi hz s (by omega) (by omega) (by rw [hb1]; omega)
      rw [hr] at this
      cases this
      simp only [Value.ownBlock, Option.some.injEq] at hk
      exact .inr (by omega)
  · by_cases hroom : n + s.size ≤ cap
    · have := run_append_room_string (P := P) w t u ty e i ht hu hi hs1 g n cap cur hg s hroom (by rw [hcs]; omega)
      rw [hr] at this
      cases this
      exact .inl hk
    · have holds : ∀ j u, xs[j]? = some u → w.cell? ((⟨g, 0, none⟩ : Addr).add j) = some u := hown.cells (g := g) rfl
      have := run_append_grow_string (P := P) w t u ty e i _ ht hu hi hz ⟨g, 0, none⟩ n cap xs (by rw [hs1]; exact hown.1) holds s (by omega) (by omega) (growslice_fits (by omega) (by rw [hb1]; omega))
      rw [hr] at this
      cases this
      simp only [Value.ownBlock, Option.some.injEq] at hk
      exact .inr (by omega)

theorem uniform_flat_one {xs : List D} (h : cellsOne xs) : ∀ (j : Nat) (c : D), (flat xs)[j]? = some c → c.one = true := by
  intro j c hj
  have := List.mem_of_getElem? hj
  simp only [flat, List.mem_flatMap] at this
  obtain ⟨d, hd, hc⟩ := this
  exact h d hd c hc

/-- What the source of an append holds. -/
theorem srcRow_same {bx : List (Nat × Box)} (hb : ∀ id b, (id, b) ∈ bx → BoxOK w A M id b) {t : TypeId} {ie : TypeInfo} {y : LV} {v : Value} {xs : List D} (h : srcRow P bx t t ie y = some xs) (hy : LV.rel w A M y v) (h1 : cellsOne xs) :
    (∀ d ∈ xs, d.cells.length = ie.size) ∧ ∃ news : List Value, news.length = xs.length * ie.size ∧ ((v = .slice none 0 0 ∧ xs.length = 0) ∨ ∃ a c, v = .slice (some a) xs.length c ∧ ∀ j u, news[j]? = some u → w.cell? (a.add j) = some u) ∧
      (∀ u ∈ news, u.oneCell' = true) ∧ ∀ (j : Nat) (c : D), (flat xs)[j]? = some c → ∃ u, news[j]? = some u ∧ RelD w A c u := by
  unfold srcRow at h
  simp only [beq_self_eq_true] at h
  split at h
  · rename_i sz xs'
    split at h
    · rename_i hsz
      cases h
      have hsz' : sz = ie.size := by simpa using hsz
      subst hsz'
      simp only [LV.rel, C.rel] at hy
      cases hy with
      | sl _ _ b off cap vs hlen huni hmem hrel =>
        have hfl := flat_length xs huni
        refine ⟨huni, (List.range (flat xs).length).map vs, by simp [hfl], .inr ⟨_, _, rfl, fun j u hj => ?_⟩, fun u hu => ?_, fun j c hj => ?_⟩
        · simp only [List.getElem?_map, Option.map_eq_some_iff] at hj
          obtain ⟨k, hk, rfl⟩ := hj
          obtain ⟨hlt, he⟩ := List.getElem?_eq_some_iff.1 hk
          simp at hlt he
          subst he
          rw [Addr.add_mid]
          exact (hmem j _ (List.getElem?_eq_getElem hlt)).2
        · simp only [List.mem_map, List.mem_range] at hu
          obtain ⟨k, hk, rfl⟩ := hu
          exact RelD.one (hrel k _ (List.getElem?_eq_getElem hk)) (uniform_flat_one h1 k _ (List.getElem?_eq_getElem hk))
        · have hlt := (List.getElem?_eq_some_iff.1 hj).1
          exact ⟨vs j, by simp [hlt], hrel j c hj⟩
      | sl0 _ a cap hc =>
        refine ⟨by simp, [], by simp, ?_, by simp, by simp [flat]⟩
        cases a with
        | none => exact .inl ⟨by rw [hc rfl], rfl⟩
        | some a => exact .inr ⟨a, cap, rfl, by simp⟩
    · cases h
  · cases h
    simp only [LV.rel, C.rel] at hy
    cases hy
    exact ⟨by simp, [], by simp, .inl ⟨rfl, rfl⟩, by simp, by simp [flat]⟩
  · rename_i id
    split at h
    · rename_i e' sz xs' hl
      split at h
      · rename_i hsz
        cases h
        have hsz' : sz = ie.size := by simpa using hsz
        subst hsz'
        simp only [LV.rel, C.rel] at hy
        subst hy
        obtain ⟨vs, ho, huni, hM, hc, hblk⟩ := hb id _ (lookup_mem hl)
        refine ⟨huni, vs, ho.1, ?_, ?_, hc⟩
        · rcases ho.2 with hn | ⟨g, cap, cur, hrv, _⟩
          · exact .inl hn
          · exact .inr ⟨_, cap, hrv, ho.cells (g := g) (by rw [hrv]; rfl)⟩
        · intro u hu
          obtain ⟨j, hj, rfl⟩ := List.mem_iff_getElem.1 hu
          have hfl := flat_length xs huni
          have hlt : j < (flat xs).length := by rw [hfl, ← ho.1]; exact hj
          obtain ⟨u', hu', hr⟩ := hc j _ (List.getElem?_eq_getElem hlt)
          rw [List.getElem?_eq_getElem hj] at hu'
          cases hu'
          exact RelD.one hr (uniform_flat_one h1 j _ (List.getElem?_eq_getElem hlt))
      · cases h
    · cases h
  · cases h

theorem oldRow_owns {bx : List (Nat × Box)} (hb : ∀ id b, (id, b) ∈ bx → BoxOK w A M id b) {e : TypeId} {sz : Nat} {x : LV} {v : Value} {oid : Option Nat} {es : List D} (h : oldRow bx e sz x = some (oid, es)) (hx : LV.rel w A M x v) :
    (∀ d ∈ es, d.cells.length = sz) ∧ ∃ xs : List Value, w.ownsRow 0 e sz v es.length xs ∧ (∀ (j : Nat) (c : D), (flat es)[j]? = some c → ∃ u, xs[j]? = some u ∧ RelD w A c u) ∧
      ((oid = none ∧ v.ownBlock = none) ∨ ∃ id b, oid = some id ∧ (id, b) ∈ bx ∧ boxBlk M (id, b) = v.ownBlock) := by
  unfold oldRow at h
  split at h
  · cases h
    simp only [LV.rel, C.rel] at hx
    cases hx
    exact ⟨by simp, [], World.ownsRow_nil w 0 e sz, by simp [flat], .inl ⟨rfl, rfl⟩⟩
  · rename_i id
    split at h
    · rename_i e' sz' es' hl
      split at h
      · rename_i hc
        cases h
        simp only [Bool.and_eq_true, beq_iff_eq] at hc
        obtain ⟨rfl, rfl⟩ := hc
        simp only [LV.rel, C.rel] at hx
        subst hx
        obtain ⟨xs, ho, huni, hM, hcc, hblk⟩ := hb id _ (lookup_mem hl)
        exact ⟨huni, xs, ho, hcc, .inr ⟨id, _, rfl, lookup_mem hl, rfl⟩⟩
      · cases h
    · cases h
  · cases h

/-- The new row stands for the old one and what was appended. -/
theorem St.appended {E : Env} {a : Act} {s : DS} (h : St E M w a s) {oid : Option Nat} {id : Nat} (hbase : E.base ≤ id) {e : TypeId} {sz : Nat} {es xs : List D} {v v' : Value} {w' : World} {ov nv : List Value}
    (ho : (oid = none ∧ v.ownBlock = none) ∨ ∃ i b, oid = some i ∧ (i, b) ∈ s.bx ∧ boxBlk M (i, b) = v.ownBlock)
    (hu1 : ∀ d ∈ es, d.cells.length = sz) (hu2 : ∀ d ∈ xs, d.cells.length = sz)
    (hc1 : ∀ (j : Nat) (c : D), (flat es)[j]? = some c → ∃ u, ov[j]? = some u ∧ RelD w (Av E.A0 M s.bx) c u) (hc2 : ∀ (j : Nat) (c : D), (flat xs)[j]? = some c → ∃ u, nv[j]? = some u ∧ RelD w (Av E.A0 M s.bx) c u)
    (hol : ov.length = es.length * sz)
    (hown : w'.ownsRow 0 e sz v' (es.length + xs.length) (ov ++ nv)) (hg : w.grownBy w' v.ownBlock) (hblk : ∀ k, v'.ownBlock = some k → v.ownBlock = some k ∨ w.heap.size ≤ k) :
    ∃ M', St E M' w' a (((dropOpt oid s).drop id).push id (.row e sz (es ++ xs))) ∧ M'.rv id = v' := by
  obtain ⟨M1, h1, hav1, hold1⟩ : ∃ M1, StA E M1 w a (dropOpt oid s) (Av E.A0 M s.bx) ∧ (∀ b, Av E.A0 M1 (dropOpt oid s).bx b → Av E.A0 M s.bx b) ∧
      (∀ k, v.ownBlock = some k → (E.O k ∨ E.w0.heap.size ≤ k) ∧ Av E.A0 M s.bx k ∧ ∀ p ∈ (dropOpt oid s).bx, boxBlk M1 p ≠ some k) := by
    rcases ho with ⟨rfl, hn⟩ | ⟨i, b, rfl, hm, hb⟩
    · exact ⟨M, h.toA, fun _ h => h, fun k hk => by rw [hn] at hk; cases hk⟩
    · refine ⟨M.upd i 0 undef 0, h.toA.drop i 0 undef 0, fun _ hb => Av_drop hb, fun k hk => ?_⟩
      rw [← hb] at hk
      refine ⟨(h.boxes.new _ hm k hk).1, .inr ⟨_, hm, hk⟩, fun p hp hpk => ?_⟩
      obtain ⟨hne, b', hm', he⟩ := mem_drop hp
      obtain ⟨pi, pb⟩ := p
      simp only at he hne hm'
      subst he
      rw [boxBlk_upd hne, boxBlk_scrub] at hpk
      have := blks_inj h.boxes.blks _ hm' _ hm k hpk hk
      cases this
      exact hne rfl
  have h2 := h1.drop id (v'.ownBlock.getD 0) v' sz
  refine ⟨M1.upd id (v'.ownBlock.getD 0) v' sz, StA.push (row := v.ownBlock) h2 drop_free hbase hg (fun k hk => ?_) (fun b hb => hav1 b (Av_drop hb)) (fun k hk => ?_) (fun A' hA' => ?_), by simp [BMap.upd]⟩
  · obtain ⟨g1, g2, g3⟩ := hold1 k hk
    refine ⟨g1, g2, fun p hp hpk => ?_⟩
    obtain ⟨hne, b', hm', he⟩ := mem_drop hp
    obtain ⟨pi, pb⟩ := p
    simp only at he hne hm'
    subst he
    rw [boxBlk_upd hne, boxBlk_scrub] at hpk
    exact g3 _ hm' hpk
  · have hk' : v'.ownBlock = some k := by simpa [boxBlk, BMap.upd] using hk
    exact ⟨hblk k hk', (hown.lt k hk').2⟩
  · refine ⟨ov ++ nv, ?_, ?_, by simp [BMap.upd], fun j c hj => ?_, fun k hk => ?_⟩
    · simpa [BMap.upd] using hown
    · intro d hd
      rcases List.mem_append.1 hd with hd | hd
      · exact hu1 d hd
      · exact hu2 d hd
    · rw [flat_append, List.getElem?_append, flat_length es hu1, ← hol] at hj
      rw [List.getElem?_append]
      split at hj
      · rename_i hlt
        rw [if_pos hlt]
        obtain ⟨u, hu, hr⟩ := hc1 j c hj
        exact ⟨u, hu, hr.mono hA'⟩
      · rename_i hlt
        rw [if_neg hlt]
        obtain ⟨u, hu, hr⟩ := hc2 _ c hj
        exact ⟨u, hu, hr.mono hA'⟩
    · have hk' : v'.ownBlock = some k := by simpa [BMap.upd] using hk
      simp [BMap.upd, hk']

theorem eAppend_sound {E : Env} {a : Act} {s s' : DS} {o : Oper} {d : Tmp} {t t' : TypeId} {x y : Operand} {id : Nat} {side : Prop} {h0 : Option D}
    (hop : o.op = .call { callee := .builtin .append, args := #[x, y], argTypes := #[t, t'] }) (hd : o.dst = some d) (he : eAppend P s id d t t' (s.ev x) (s.ev y) h0 = some (side, s')) (hs : side) (h : St E M w a s) (hbase : E.base ≤ id) :
    ∀ (K : Act → World → Prop) (Q : Exit → Act → World → Prop), (∀ v w' M', St E M' w' (a.put o.dst v) s' → K (a.put o.dst v) w') → o.wp P a w K Q := by
  intro K Q hK
  have hx := ev_rel h.size h.slots x
  have hy := ev_rel h.size h.slots y
  unfold eAppend at he
  split at he
  · rename_i e hu
    split at he
    · rename_i ie hie
      split at he
      · rename_i z hz
        split at he
        · rename_i hcond
          simp only [Bool.and_eq_true, beq_iff_eq] at hcond
          obtain ⟨⟨hzs, hsz⟩, hb0⟩ := hcond
          have hsz' : 0 < ie.size := by simpa [Nat.blt_eq] using hsz
          have hb0' : 0 < ie.bytes := by simpa [Nat.blt_eq] using hb0
          split at he
          · rename_i oid es xs ho hsrc
            simp only [Option.some.injEq, Prod.mk.injEq] at he
            obtain ⟨h1, rfl⟩ := he
            rw [← h1] at hs
            obtain ⟨hbytes, hone, hhint⟩ := hs
            rw [hintRow_eq hhint] at hK
            obtain ⟨hu1, ov, hown, hc1, hoid⟩ := oldRow_owns h.boxes.ok ho hx
            have fin : ∀ (v' : Value) (w' : World) (nv : List Value), (Builtin.append_ #[t, t'] o.type #[a.eval x, a.eval y]).run P w = .ok v' w' → (∀ d ∈ xs, d.cells.length = ie.size) →
                (∀ (j : Nat) (c : D), (flat xs)[j]? = some c → ∃ u, nv[j]? = some u ∧ RelD w (Av E.A0 M s.bx) c u) →
                w'.ownsRow 0 e ie.size v' (es.length + xs.length) (ov ++ nv) → w.grownBy w' (a.eval x).ownBlock → (∀ k, v'.ownBlock = some k → (a.eval x).ownBlock = some k ∨ w.heap.size ≤ k) → o.wp P a w K Q := by
              intro v' w' nv hr hu2 hc2 hown' hg hblk
              obtain ⟨M', hst, hrv⟩ := h.appended hbase hoid hu1 hu2 hc1 hc2 hown.1 hown' hg hblk
              unfold Oper.wp
              rw [run_builtin hop]
              simp only [builtin, Sem.run_bind, List.map_toArray, List.map_cons, List.map_nil, hr, Result.andThen_ok, Sem.run_pure, Oper.upon_value]
              refine hK v' w' M' ?_
              rw [hd]
              exact hst.put (some d) (by simp only [LV.rel, C.rel]; exact hrv.symm)
            by_cases htt : t' = t
            · subst htt
              obtain ⟨hu2, nv, hnl, hyv, h1c, hc2⟩ := srcRow_same h.boxes.ok hsrc hy hone
              obtain ⟨v', w', hr, hown', hg, hblk⟩ := run_append_own' (P := P) (w := w) t' o.type e ie z hu hie hz hzs hsz' (a.eval x) es.length ov hown (a.eval y) xs.length nv hnl hyv h1c hb0' hbytes
              exact fin v' w' nv hr hu2 hc2 hown' hg hblk
            · unfold srcRow at hsrc
              simp only [beq_eq_false_iff_ne.2 htt] at hsrc
              split at hsrc
              · rename_i sl hus hzz hcc heq
                cases hsrc
                rw [heq] at hy
                simp only [LV.rel, C.rel] at hy
                obtain ⟨bs, hbs, rfl⟩ := relD_str hy
                simp only [Bool.and_eq_true, beq_iff_eq] at hcc
                have hlen : (List.map byteD bs.data.toList).length = bs.size := by rw [List.length_map, Array.length_toList]; rfl
                rw [hlen, hcc.2, Nat.mul_one] at hbytes
                rw [hcc.1] at hown
                obtain ⟨v', w', hr, hown', hg, hblk⟩ := run_append_own_str' (P := P) (w := w) t t' o.type e ie hu hus hie hzz hcc.1 hcc.2 (a.eval x) es.length ov hown bs hbytes
                rw [← hbs] at hr
                refine fin v' w' (strCells bs) hr ?_ ?_ (by rw [hlen, hcc.1]; exact hown') hg hblk
                · intro d hd
                  obtain ⟨b, _, rfl⟩ := List.mem_map.1 hd
                  simp [byteD, D.cells, hcc.1]
                · intro j c hj
                  have hfl : flat (List.map byteD bs.data.toList) = List.map byteD bs.data.toList := by
                    rw [flat_map_agg]
                    induction bs.data.toList with
                    | nil => rfl
                    | cons b l ih => simp [byteD, D.cells] at ih ⊢; exact ih
                  rw [hfl, List.getElem?_map, Option.map_eq_some_iff] at hj
                  obtain ⟨b, hb, rfl⟩ := hj
                  exact ⟨.int .u8 b.toNat, by simp only [strCells, List.getElem?_map, hb, Option.map_some], RelD.int _ _⟩
              · cases hsrc
          · cases he
        · cases he
      · cases he
    · cases he
  · cases he
end
end Go.DL
