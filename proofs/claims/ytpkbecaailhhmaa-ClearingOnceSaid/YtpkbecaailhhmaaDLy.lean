/-
  The bridge from the data-level framework to a law's row: what an argument of a given type reads as, and what a returned bool says. Generic in the program; no condition.
-/
import Derived.Test.YtpkbecaailhhmaaDLx
import Derived.ProofKit
import Derived.Handed
import Derived.SizedLaws
import Derived.Deep.Slices
set_option linter.unusedVariables false
set_option linter.unusedSimpArgs false
namespace Go.DL
open Go.RowKit Go.ChangeShapes Go.WideShapes

/-- Whatever is read at type t, in any world, stands for a datum of α, laid as cells; Good is what the law of sizes says of it. -/
def Dec (P : Program) (t : TypeId) {α : Type} (cells : α → List D) (Good : α → Prop) : Prop :=
  ∀ (H : Type) (enc : TypeId × Value → H) (w : World) (fuel : Nat) (cs : List Value) (d : DataW H) (ps : List MemPlace), DataW.trod enc P w 0 (fun _ => true) true fuel t cs = some (d, ps) →
    ∃ a : α, cs.length = (cells a).length ∧ (∀ (j : Nat) (c : D), (cells a)[j]? = some c → ∃ v, cs[j]? = some v ∧ RelD w (fun _ => False) c v) ∧ ((∀ n ∈ d.weights P t, n ≤ reachBytes) → Good a)

/-- The same of the fields of a struct, from a place on. -/
def DecFs (P : Program) (off : Nat) (L : List (TypeId × Nat)) {α : Type} (cells : α → List D) (Good : α → Prop) : Prop :=
  ∀ (H : Type) (enc : TypeId × Value → H) (w : World) (n : Nat) (cs : List Value) (xs : List (DataW H × List MemPlace)), xs.length = L.length →
    (∀ (i : Nat) (t : TypeId) (o : Nat), L[i]? = some (t, o) → DataW.trod enc P w 0 (fun _ => true) true n t ((cs.drop o).take (P.cellsOf t)) = xs[i]?) →
    ∃ a : α, (∀ (j : Nat) (c : D), (cells a)[j]? = some c → ∃ v, cs[off + j]? = some v ∧ RelD w (fun _ => False) c v) ∧ ((∀ m ∈ DataW.weightsEach P (L.map (·.1)) (xs.map (·.1)), m ≤ reachBytes) → Good a)

def fieldsOf (P : Program) (t : TypeId) : Option (List (TypeId × Nat)) :=
  match P.underlying t with
  | some (.struct fs) => some (fs.toList.map fun f => (f.type, f.offset))
  | _ => none

section
variable {P : Program}

theorem Dec.map {t : TypeId} {α β : Type} {cells : α → List D} {Good : α → Prop} (h : Dec P t cells Good) (f : α → β) (cells' : β → List D) (Good' : β → Prop) (hc : ∀ a, cells' (f a) = cells a) (hg : ∀ a, Good a → Good' (f a)) : Dec P t cells' Good' := by
  intro H enc w fuel cs d ps hd
  obtain ⟨a, h1, h2, h3⟩ := h H enc w fuel cs d ps hd
  exact ⟨f a, by rw [hc]; exact h1, by rw [hc]; exact h2, fun hw => hg a (h3 hw)⟩

theorem one_get {w : World} {A : Nat → Prop} {d : D} {v : Value} (h : RelD w A d v) : ∀ (j : Nat) (c : D), [d][j]? = some c → ∃ u, [v][j]? = some u ∧ RelD w A c u := by
  intro j c hj
  cases j with
  | zero => simp at hj; subst hj; exact ⟨v, rfl, h⟩
  | succ j => simp at hj

theorem Dec.int {t : TypeId} {k : IntKind} (ht : P.underlying t = some (.int k)) : Dec P t (fun n : Int => [.int k n]) (fun n => (Lit.int k n).wf = true) := by
  intro H enc w fuel cs d ps hd
  obtain ⟨n, rfl, _, hwf⟩ := DataW.trod_int ht hd
  exact ⟨n, rfl, one_get (.int _ _), fun _ => hwf⟩

theorem Dec.bool {t : TypeId} (ht : P.underlying t = some .bool) : Dec P t (fun b : Bool => [.bool b]) (fun _ => True) := by
  intro H enc w fuel cs d ps hd
  obtain ⟨b, rfl, _⟩ := DataW.trod_bool ht hd
  exact ⟨b, rfl, one_get (.bool _), fun _ => trivial⟩

theorem DecFs.nil (off : Nat) : DecFs P off [] (fun _ : Unit => []) (fun _ => True) :=
  fun _ _ _ _ _ _ _ _ => ⟨(), by simp, fun _ => trivial⟩

theorem DecFs.cons {off : Nat} {t : TypeId} {L : List (TypeId × Nat)} {α β : Type} {ct : α → List D} {Gt : α → Prop} {cells : β → List D} {Good : β → Prop} (sz : Nat) (hsz : P.cellsOf t = sz) (h1 : Dec P t ct Gt) (hc : ∀ a, (ct a).length = sz)
    (h2 : DecFs P (off + sz) L cells Good) : DecFs P off ((t, off) :: L) (fun p : α × β => ct p.1 ++ cells p.2) (fun p => Gt p.1 ∧ Good p.2) := by
  intro H enc w n cs xs hl hx
  cases xs with
  | nil => simp at hl
  | cons x xs =>
    obtain ⟨d, ps⟩ := x
    have h0 := hx 0 t off rfl
    simp only [List.getElem?_cons_zero] at h0
    obtain ⟨a, g1, g2, g3⟩ := h1 H enc w n _ d ps h0
    obtain ⟨b, k1, k2⟩ := h2 H enc w n cs xs (by simpa using hl) (fun i t' o hi => by simpa using hx (i + 1) t' o (by simpa using hi))
    refine ⟨(a, b), fun j c hj => ?_, fun hw => ⟨g3 fun m hm => hw m ?_, k2 fun m hm => hw m ?_⟩⟩
    · simp only [List.getElem?_append, hc] at hj
      split at hj
      · obtain ⟨v, hv, hr⟩ := g2 j c hj
        refine ⟨v, ?_, hr⟩
        rw [List.getElem?_take] at hv
        split at hv
        · rwa [List.getElem?_drop] at hv
        · cases hv
      · obtain ⟨v, hv, hr⟩ := k1 _ c hj
        exact ⟨v, by rw [← hv]; congr 1; omega, hr⟩
    · simp only [List.map_cons, DataW.weightsEach]
      exact List.mem_append_left _ hm
    · simp only [List.map_cons, DataW.weightsEach]
      exact List.mem_append_right _ hm

theorem Dec.struct {t : TypeId} {L : List (TypeId × Nat)} {α : Type} {cells : α → List D} {Good : α → Prop} (sz : Nat) (hsz : P.cellsOf t = sz) (hf : fieldsOf P t = some L) (h : DecFs P 0 L cells Good) (hc : ∀ a, (cells a).length = sz) : Dec P t cells Good := by
  intro H enc w fuel cs d ps hd
  unfold fieldsOf at hf
  split at hf
  · rename_i fs ht
    simp only [Option.some.injEq] at hf
    obtain ⟨xs, n, _, hx, hlen, hxl, hall⟩ := DataW.trod_struct ht hd
    obtain ⟨a, h1, h2⟩ := h H enc w n cs xs (by rw [← hf]; simpa using hxl) (fun i t' o hi => by
      rw [← hf, List.getElem?_map, Option.map_eq_some_iff] at hi
      obtain ⟨f, hfi, he⟩ := hi
      cases he
      exact hall i f (by simpa using hfi))
    refine ⟨a, by rw [hlen, hsz, hc], fun j c hj => by simpa using h1 j c hj, fun hw => h2 fun m hm => hw m ?_⟩
    have : d = .agg (xs.map (·.1)) := congrArg Prod.fst hx
    rw [this]
    simp only [DataW.weights, ht]
    rw [← hf, List.map_map] at hm
    exact hm
  · cases hf

theorem weightsAll_mem {H : Type} {e : TypeId} {x : DataW H} {m : Nat} : ∀ {l : List (DataW H)}, x ∈ l → m ∈ x.weights P e → m ∈ DataW.weightsAll P e l
  | y :: l, hx, hm => by
    simp only [DataW.weightsAll, List.mem_append]
    rcases List.mem_cons.1 hx with rfl | hx
    · exact .inl hm
    · exact .inr (weightsAll_mem hx hm)

theorem flat_split {sz : Nat} (hpos : 0 < sz) : ∀ {es : List D} {j : Nat} {c : D}, (∀ e ∈ es, e.cells.length = sz) → (flat es)[j]? = some c → ∃ e, es[j / sz]? = some e ∧ e.cells[j % sz]? = some c
  | [], j, c, _, h => by simp [flat] at h
  | e :: es, j, c, hu, h => by
    have he := hu e List.mem_cons_self
    simp only [flat, List.flatMap_cons, List.getElem?_append, he] at h
    split at h
    · rename_i hlt
      exact ⟨e, by rw [Nat.div_eq_of_lt hlt]; rfl, by rw [Nat.mod_eq_of_lt hlt]; exact h⟩
    · rename_i hge
      obtain ⟨e', h1, h2⟩ := flat_split hpos (fun x hx => hu x (List.mem_cons_of_mem _ hx)) (show (flat es)[j - sz]? = some c from h)
      have hd : j / sz = (j - sz) / sz + 1 := by
        rw [← Nat.sub_add_cancel (Nat.le_of_not_lt hge), Nat.add_div_right _ hpos, Nat.add_sub_cancel]
      have hm : j % sz = (j - sz) % sz := by
        conv => lhs; rw [← Nat.sub_add_cancel (Nat.le_of_not_lt hge)]
        exact Nat.add_mod_right _ _
      exact ⟨e', by rw [hd]; simpa using h1, by rw [hm]; exact h2⟩

theorem Dec.slice {t e : TypeId} {α : Type} {cells : α → List D} {Good : α → Prop} (ht : P.underlying t = some (.slice e)) (sz bytes : Nat) (hsz : P.cellsOf e = sz) (hby : P.bytesOf e = bytes) (hpos : 0 < sz) (h : Dec P e cells Good) (enc : α → D)
    (hce : ∀ a, (enc a).cells = cells a) (hlen : ∀ a, (cells a).length = sz) : Dec P t (fun l : List α => [.sl sz (l.map enc)]) (fun l => l.length * bytes ≤ reachBytes ∧ ∀ a ∈ l, Good a) := by
  intro H en w fuel cs d ps hd
  rcases Go.Deep.open_slice ht hd with ⟨rfl, hx⟩ | ⟨a, len, cap, m, n, Dd, Pl, rfl, _, hlc, hcm, hm, hx, hel⟩
  · refine ⟨[], rfl, one_get (.sl0 sz none 0 fun _ => rfl), fun _ => ⟨by simp, by simp⟩⟩
  · simp only [if_true] at hm
    subst hm
    have hall : ∀ i : Fin len, ∃ b : α, ∃ cs' : List Value, w.cells? 0 (a.add (i.1 * sz)) sz = some cs' ∧ cs'.length = sz ∧
        (∀ (j : Nat) (c : D), (cells b)[j]? = some c → ∃ v, cs'[j]? = some v ∧ RelD w (fun _ => False) c v) ∧ ((∀ n ∈ (Dd i.1).weights P e, n ≤ reachBytes) → Good b) := by
      intro i
      obtain ⟨cs', h1, h2⟩ := hel i.1 (by omega)
      rw [hsz] at h1
      obtain ⟨b, g1, g2, g3⟩ := h H en w n cs' _ _ h2
      exact ⟨b, cs', h1, by rw [g1, hlen], g2, g3⟩
    let f : Fin len → α := fun i => Classical.choose (hall i)
    have hf : ∀ i : Fin len, ∃ cs' : List Value, w.cells? 0 (a.add (i.1 * sz)) sz = some cs' ∧ cs'.length = sz ∧
        (∀ (j : Nat) (c : D), (cells (f i))[j]? = some c → ∃ v, cs'[j]? = some v ∧ RelD w (fun _ => False) c v) ∧ ((∀ n ∈ (Dd i.1).weights P e, n ≤ reachBytes) → Good (f i)) := fun i => Classical.choose_spec (hall i)
    have hll : (List.ofFn f).length = len := by simp
    have hw : (∀ n ∈ d.weights P t, n ≤ reachBytes) → (List.ofFn f).length * bytes ≤ reachBytes ∧ ∀ b ∈ List.ofFn f, Good b := by
      intro hw
      have hd' : d = .slice ((List.range len).map Dd) ((List.range (m - len)).map fun j => Dd (len + j)) := congrArg Prod.fst hx
      rw [hd'] at hw
      simp only [DataW.weights, ht] at hw
      refine ⟨?_, fun b hb => ?_⟩
      · have := hw _ List.mem_cons_self
        simp only [List.length_map, List.length_range, hby] at this
        rw [hll]
        exact Nat.le_trans (Nat.mul_le_mul_right _ (by omega)) this
      · obtain ⟨i, hi⟩ := List.mem_ofFn.1 hb
        obtain ⟨cs', _, _, _, g⟩ := hf i
        rw [← hi]
        refine g fun n hn => hw n (List.mem_cons_of_mem _ (List.mem_append_left _ (weightsAll_mem (x := Dd i.1) (List.mem_map.2 ⟨i.1, by simp, rfl⟩) hn)))
    refine ⟨List.ofFn f, rfl, one_get ?_, hw⟩
    have huni : ∀ x ∈ (List.ofFn f).map enc, x.cells.length = sz := by
      intro x hx
      obtain ⟨b, _, rfl⟩ := List.mem_map.1 hx
      rw [hce, hlen]
    by_cases h0 : len = 0
    · subst h0
      have : (List.ofFn f).map enc = [] := by simp
      rw [this]
      exact .sl0 sz (some a) m (fun h => by cases h)
    · have hspot : a.spot = none := by
        obtain ⟨cs', h1, h2, _⟩ := hf ⟨0, by omega⟩
        obtain ⟨_, _, h3⟩ := World.cells?_some h1
        have := h3 0 hpos
        have hc0 : cs'[0]? = some cs'[0] := List.getElem?_eq_getElem (by omega)
        rw [hc0] at this
        simp only [Nat.zero_mul] at this
        simp only [Addr.add, if_true] at this
        unfold World.cell? at this
        split at this
        · split at this
          · cases this
          · rename_i hs; simpa using hs
        · cases this
      have haddr : ∀ k, a.add k = ⟨a.block, a.off + k, none⟩ := by
        intro k
        unfold Addr.add
        split
        · rename_i hk; subst hk; cases a; simp at hspot; subst hspot; rfl
        · rfl
      have key : ∀ (j : Nat) (c : D), (flat ((List.ofFn f).map enc))[j]? = some c → ∃ v, w.cell? ⟨a.block, a.off + j, none⟩ = some v ∧ RelD w (fun _ => False) c v := by
        intro j c hj
        obtain ⟨x, h1, h2⟩ := flat_split hpos huni hj
        rw [List.getElem?_map, Option.map_eq_some_iff] at h1
        obtain ⟨b, hb, rfl⟩ := h1
        obtain ⟨hlt, he⟩ := List.getElem?_eq_some_iff.1 hb
        rw [List.getElem_ofFn] at he
        rw [hll] at hlt
        obtain ⟨cs', g1, g2, g3, _⟩ := hf ⟨j / sz, hlt⟩
        rw [hce, ← he] at h2
        obtain ⟨v, hv, hr⟩ := g3 _ c h2
        refine ⟨v, ?_, hr⟩
        obtain ⟨_, _, g4⟩ := World.cells?_some g1
        have g5 := g4 (j % sz) (Nat.mod_lt _ hpos)
        rw [Go.Deep.add_add, haddr, hv, Nat.div_add_mod' j sz] at g5
        exact g5
      have hsa : a = ⟨a.block, a.off, none⟩ := by cases a; simp at hspot; subst hspot; rfl
      have hlm : ((List.ofFn f).map enc).length = len := by simp
      rw [hsa]
      have := RelD.sl (w := w) (A := fun _ => False) sz ((List.ofFn f).map enc) a.block a.off m (fun j => (w.cell? ⟨a.block, a.off + j, none⟩).getD undef) (by rw [hlm]; exact hlc) huni
        (fun j c hj => by obtain ⟨v, hv, _⟩ := key j c hj; exact ⟨fun h => h, by rw [hv]; rfl⟩) (fun j c hj => by obtain ⟨v, hv, hr⟩ := key j c hj; rw [hv]; exact hr)
      rwa [hlm] at this

/-! ### arguments -/
theorem arg_one {H : Type} {enc : TypeId × Value → H} {W : World} {base : Nat} {t : TypeId} {v : Value} {d : DataW H} {ps : List MemPlace} {α : Type} {cell : α → D} {Good : α → Prop} (h : Dec P t (fun a => [cell a]) Good) (hd : DataW.Trod enc P W 0 (fun _ => true) true t v d ps)
    (hok : Value.okWide P W .any base t v) (hno : ∀ arr, ¬ Value.okWide P W .any base t (.agg arr)) : ∃ a, RelD W (fun _ => False) (cell a) v ∧ ((∀ n ∈ d.weights P t, n ≤ reachBytes) → Good a) := by
  obtain ⟨fuel, hf⟩ := hd
  obtain ⟨a, h1, h2, h3⟩ := h H enc W fuel _ d ps hf
  obtain ⟨u, hu, hr⟩ := h2 0 (cell a) rfl
  have : v.cells = #[v] := by cases v <;> first | rfl | exact absurd hok (hno _)
  rw [this] at hu
  simp at hu
  subst hu
  exact ⟨a, hr, h3⟩

theorem arg_agg {H : Type} {enc : TypeId × Value → H} {W : World} {base : Nat} {t : TypeId} {v : Value} {d : DataW H} {ps : List MemPlace} {α : Type} {cells : α → List D} {Good : α → Prop} (h : Dec P t cells Good) (hd : DataW.Trod enc P W 0 (fun _ => true) true t v d ps)
    (hok : Value.okWide P W .any base t v) (hs : (fieldsOf P t).isSome = true) : ∃ a, RelD W (fun _ => False) (.agg (cells a)) v ∧ ((∀ n ∈ d.weights P t, n ≤ reachBytes) → Good a) := by
  obtain ⟨fuel, hf⟩ := hd
  obtain ⟨a, h1, h2, h3⟩ := h H enc W fuel _ d ps hf
  have : ∃ cs, v = .agg cs := by
    unfold fieldsOf at hs
    split at hs
    · rename_i fs ht
      simp only [Value.okWide, ht] at hok
      obtain ⟨cs, rfl, _⟩ := hok
      exact ⟨cs, rfl⟩
    · cases hs
  obtain ⟨cs, rfl⟩ := this
  simp only [Value.cells] at h1 h2
  refine ⟨a, .agg _ cs (by simpa using h1) (fun j => cs.getD j undef) (fun j c hj => ?_) (fun j c hj => ?_), h3⟩
  · obtain ⟨u, hu, _⟩ := h2 j c hj
    have : cs[j]? = some u := by simpa using hu
    simp [this]
  · obtain ⟨u, hu, hr⟩ := h2 j c hj
    have : cs[j]? = some u := by simpa using hu
    simpa [this] using hr

theorem no_agg_int {W : World} {base : Nat} {t : TypeId} {k : IntKind} (ht : P.underlying t = some (.int k)) : ∀ arr, ¬ Value.okWide P W .any base t (.agg arr) := by
  intro arr h; simp [Value.okWide, ht, Cell.okWide, Cell.ok] at h
theorem no_agg_bool {W : World} {base : Nat} {t : TypeId} (ht : P.underlying t = some .bool) : ∀ arr, ¬ Value.okWide P W .any base t (.agg arr) := by
  intro arr h; simp [Value.okWide, ht, Cell.okWide, Cell.ok] at h
theorem no_agg_slice {W : World} {base : Nat} {t e : TypeId} (ht : P.underlying t = some (.slice e)) : ∀ arr, ¬ Value.okWide P W .any base t (.agg arr) := by
  intro arr h; simp [Value.okWide, ht, Cell.okWide, Cell.ok] at h
end
end Go.DL
