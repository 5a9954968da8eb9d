/-
  The data-level framework, part v: slices.Insert into an own row. Generic in the program; no condition.
-/
import Derived.Test.YtpkbecaailhhmaaDLu
set_option linter.unusedVariables false
set_option linter.unusedSimpArgs false
namespace Go.DL
open Go.RowKit

/-- What a call of slices.Insert at an own row makes. -/
def InsertOK (P : Program) (f : FuncId) (e : TypeId) (sz bytes : Nat) : Prop :=
  Callable P f ∧ ∀ (w : World) (v : Value) (n : Nat) (xs : List Value) (g2 m vc : Nat) (cur2 : Array Value) (ys : List Value) (i : Nat),
    w.ownsRow 0 e sz v n xs → w.heap[g2]? = some (.cells cur2 e (0, 0)) → v.ownBlock ≠ some g2 → ys.length = m * sz → (∀ (j : Nat) (u : Value), ys[j]? = some u → cur2[j]? = some u) →
    i ≤ n → 0 < m → (n + m) * bytes ≤ 140737488355328 → (∀ u ∈ xs, u.oneCell' = true) → (∀ u ∈ ys, u.oneCell' = true) →
    Calls P f #[v, .int .i64 i, .slice (some ⟨g2, 0, none⟩) m vc] w fun x w' => ∃ v', x = .returned v' ∧ w'.ownsRow 0 e sz v' (n + m) (xs.take (i * sz) ++ ys ++ xs.drop (i * sz)) ∧
      w.grownBy w' v.ownBlock ∧ ∀ k, v'.ownBlock = some k → v.ownBlock = some k ∨ w.heap.size ≤ k

section
variable {P : Program} {w : World} {A : Nat → Prop} {M : BMap}

/-- A new row stands for the old one. -/
theorem St.rerow {E : Env} {a : Act} {s : DS} (h : St E M w a s) {oid : Option Nat} {id : Nat} (hbase : E.base ≤ id) {e : TypeId} {sz : Nat} {ds : List D} {v v' : Value} {w' : World} {tv : List Value}
    (ho : (oid = none ∧ v.ownBlock = none) ∨ ∃ i b, oid = some i ∧ (i, b) ∈ s.bx ∧ boxBlk M (i, b) = v.ownBlock)
    (hu : ∀ d ∈ ds, d.cells.length = sz)
    (hc : ∀ (j : Nat) (c : D), (flat ds)[j]? = some c → ∃ u, tv[j]? = some u ∧ RelD w (Av E.A0 M s.bx) c u)
    (hown : w'.ownsRow 0 e sz v' ds.length tv) (hg : w.grownBy w' v.ownBlock) (hblk : ∀ k, v'.ownBlock = some k → v.ownBlock = some k ∨ w.heap.size ≤ k) :
    ∃ M', St E M' w' a (((dropOpt oid s).drop id).push id (.row e sz ds)) ∧ M'.rv id = v' := by
  obtain ⟨M1, h1, hav1, hold1⟩ : ∃ M1, StA E M1 w a (dropOpt oid s) (Av E.A0 M s.bx) ∧ (∀ b, Av E.A0 M1 (dropOpt oid s).bx b → Av E.A0 M s.bx b) ∧
      (∀ k, v.ownBlock = some k → (E.O k ∨ E.w0.heap.size ≤ k) ∧ Av E.A0 M s.bx k ∧ ∀ p ∈ (dropOpt oid s).bx, boxBlk M1 p ≠ some k) := by
    rcases ho with ⟨rfl, hn⟩ | ⟨i, b, rfl, hm, hb⟩
    · exact ⟨M, h.toA, fun _ h => h, fun k hk => by rw [hn] at hk; cases hk⟩
    · refine ⟨M.upd i 0 undef 0, h.toA.drop i 0 undef 0, fun _ hb => Av_drop hb, fun k hk => ?_⟩
      rw [← hb] at hk
      refine ⟨(h.boxes.new _ hm k hk).1, .inr ⟨_, hm, hk⟩, fun p hp hpk => ?_⟩
      obtain ⟨hne, b', hm', he⟩ := mem_drop hp
      obtain ⟨pi, pb⟩ := p
      simp only at he hne hm'
      subst he
      rw [boxBlk_upd hne, boxBlk_scrub] at hpk
      have := blks_inj h.boxes.blks _ hm' _ hm k hpk hk
      cases this
      exact hne rfl
  have h2 := h1.drop id (v'.ownBlock.getD 0) v' sz
  refine ⟨M1.upd id (v'.ownBlock.getD 0) v' sz, StA.push (row := v.ownBlock) h2 drop_free hbase hg (fun k hk => ?_) (fun b hb => hav1 b (Av_drop hb)) (fun k hk => ?_) (fun A' hA' => ?_), by simp [BMap.upd]⟩
  · obtain ⟨g1, g2, g3⟩ := hold1 k hk
    refine ⟨g1, g2, fun p hp hpk => ?_⟩
    obtain ⟨hne, b', hm', he⟩ := mem_drop hp
    obtain ⟨pi, pb⟩ := p
    simp only at he hne hm'
    subst he
    rw [boxBlk_upd hne, boxBlk_scrub] at hpk
    exact g3 _ hm' hpk
  · have hk' : v'.ownBlock = some k := by simpa [boxBlk, BMap.upd] using hk
    exact ⟨hblk k hk', (hown.lt k hk').2⟩
  · refine ⟨tv, ?_, hu, by simp [BMap.upd], fun j c hj => ?_, fun k hk => ?_⟩
    · simpa [BMap.upd] using hown
    · obtain ⟨u, hu, hr⟩ := hc j c hj
      exact ⟨u, hu, hr.mono hA'⟩
    · have hk' : v'.ownBlock = some k := by simpa [BMap.upd] using hk
      simp [BMap.upd, hk']

theorem own_one {xs : List Value} {es : List D} {sz : Nat} (hl : xs.length = es.length * sz) (hu : ∀ d ∈ es, d.cells.length = sz) (h1 : cellsOne es)
    (hc : ∀ (j : Nat) (c : D), (flat es)[j]? = some c → ∃ u, xs[j]? = some u ∧ RelD w A c u) : ∀ u ∈ xs, u.oneCell' = true := by
  intro u hm
  obtain ⟨j, hj, rfl⟩ := List.mem_iff_getElem.1 hm
  have hlt : j < (flat es).length := by rw [flat_length es hu, ← hl]; exact hj
  obtain ⟨u', hu', hr⟩ := hc j _ (List.getElem?_eq_getElem hlt)
  rw [List.getElem?_eq_getElem hj] at hu'
  cases hu'
  exact RelD.one hr (uniform_flat_one h1 j _ (List.getElem?_eq_getElem hlt))

theorem TL_insert {base : Nat} {ops : Array Oper} {o : Oper} {rest : List Oper} {Q : DX → DS → Prop} {s : DS} (e : TypeId) (sz bytes : Nat) {fop x i v : Operand} {ts : Array TypeId} (f : FuncId) (hok : InsertOK P f e sz bytes)
    (ho : o.op = .call { callee := .value fop, args := #[x, i, v], argTypes := ts }) (hgd : o.guard = none) (hf : s.ev fop = .one (.fn f []))
    (oid : Option Nat) (es : List D) (hx : oldRow s.bx e sz (s.ev x) = some (oid, es)) (k : Nat) (iv : Int) (hi : s.ev i = .one (.dat (.int .i64 iv))) (hik : iv = k) (vid : Nat) (hv : s.ev v = .one (.own vid)) (xs : List D) (hl : s.bx.lookup vid = some (.row e sz xs))
    (hne : oid ≠ some vid) (id : Nat) (hid : base ≤ id) (hle : k ≤ es.length) (hm : 0 < xs.length) (hby : (es.length + xs.length) * bytes ≤ 140737488355328) (h1 : cellsOne es) (h2 : cellsOne xs) (ds : List D) (hds : es.take k ++ xs ++ es.drop k = ds)
    (h : TL P base ops rest Q ((((dropOpt oid s).drop id).push id (.row e sz ds)).put o.dst (.one (.own id)))) : TL P base ops (o :: rest) Q s := by
  subst hds
  intro E M w a hE hst
  refine wpList_plain hgd fun K hK => ?_
  have hslots := ev_rel hst.size hst.slots
  have hfr := hslots fop
  rw [hf] at hfr
  obtain ⟨cv, hfv, hcs, hcv⟩ := hfr
  have hcv0 : cv = #[] := Array.eq_empty_of_size_eq_zero (by simpa using hcs)
  subst hcv0
  unfold Oper.wp
  rw [run_call_func ho hfv hok.1, Oper.upon_enter]
  obtain ⟨hu1, ov, hown, hc1, hoid⟩ := oldRow_owns hst.boxes.ok hx (hslots x)
  have hiv := hslots i
  rw [hi] at hiv
  simp only [LV.rel, C.rel] at hiv
  have hiv' : a.eval i = .int .i64 k := by rw [relD_int hiv, hik]
  have hvv := hslots v
  rw [hv] at hvv
  simp only [LV.rel, C.rel] at hvv
  have hvm := lookup_mem hl
  obtain ⟨ys, hyo, hu2, _, hc2, _⟩ := hst.boxes.ok vid _ hvm
  rcases hyo.2 with ⟨_, h0⟩ | ⟨g2, vc, cur2, hrv, _, hg2, hnc, _, hcs2, htk⟩
  · omega
  have hvb : boxBlk M (vid, Box.row e sz xs) = some g2 := by simp [boxBlk, hrv, Value.ownBlock]
  have hdiff : (a.eval x).ownBlock ≠ some g2 := by
    intro hxe
    rcases hoid with ⟨_, hn⟩ | ⟨ii, b, ho', hmem, hb⟩
    · rw [hn] at hxe; cases hxe
    · have := blks_inj hst.boxes.blks _ hmem _ hvm g2 (hb.trans hxe) hvb
      cases this
      exact hne ho'
  have hargs : (#[x, i, v] : Array Operand).map a.eval ++ #[] = #[a.eval x, .int .i64 k, .slice (some ⟨g2, 0, none⟩) xs.length vc] := by
    simp [hiv', hvv, hrv]
  rw [hargs]
  have h1x := own_one hown.1 hu1 h1 hc1
  have h1y := own_one hyo.1 hu2 h2 hc2
  refine (hok.2 w (a.eval x) es.length ov g2 xs.length vc cur2 ys k hown hg2 hdiff hyo.1 (fun j u hj => ?_) hle hm hby h1x h1y).mono ?_
  · rw [← htk, List.getElem?_take] at hj
    split at hj
    · simpa using hj
    · cases hj
  rintro x' w' ⟨v', rfl, hown', hgr, hblk⟩
  have hlen : (es.take k ++ xs ++ es.drop k).length = es.length + xs.length := by
    simp only [List.length_append, List.length_take, List.length_drop]; omega
  have hflat : flat (es.take k ++ xs ++ es.drop k) = (flat es).take (k * sz) ++ flat xs ++ (flat es).drop (k * sz) := by
    rw [flat_append, flat_append, flat_take es k hu1, flat_drop es k hu1]
  have hfl1 := flat_length es hu1
  have hfl2 := flat_length xs hu2
  have hol := hown.1
  have hyl := hyo.1
  have hks : k * sz ≤ es.length * sz := Nat.mul_le_mul_right _ hle
  obtain ⟨M', hst', hrv'⟩ := hst.rerow (id := id) (by omega : E.base ≤ id) (ds := es.take k ++ xs ++ es.drop k) (tv := ov.take (k * sz) ++ ys ++ ov.drop (k * sz)) hoid
    (fun d hd => by
      simp only [List.mem_append] at hd
      rcases hd with (hd | hd) | hd
      · exact hu1 d (List.mem_of_mem_take hd)
      · exact hu2 d hd
      · exact hu1 d (List.mem_of_mem_drop hd))
    (fun j c hj => by
      rw [hflat] at hj
      have ht1 : ((flat es).take (k * sz)).length = k * sz := by rw [List.length_take]; omega
      have ht2 : (ov.take (k * sz)).length = k * sz := by rw [List.length_take]; omega
      rw [List.getElem?_append, List.getElem?_append, List.length_append, ht1] at hj
      rw [List.getElem?_append, List.getElem?_append, List.length_append, ht2, hyl, ← hfl2]
      split at hj
      · rename_i hlt
        rw [if_pos hlt]
        split at hj
        · rename_i hlt2
          rw [if_pos hlt2]
          rw [List.getElem?_take, if_pos hlt2] at hj
          rw [List.getElem?_take, if_pos hlt2]
          exact hc1 j c hj
        · rename_i hlt2
          rw [if_neg hlt2]
          exact hc2 _ c hj
      · rename_i hlt
        rw [if_neg hlt]
        rw [List.getElem?_drop] at hj ⊢
        exact hc1 _ c hj)
    (by rw [hlen]; exact hown') hgr hblk
  exact hK _ _ (h E M' w' _ hE (hst'.put o.dst (by simp only [LV.rel, C.rel]; exact hrv'.symm)))
end
end Go.DL
