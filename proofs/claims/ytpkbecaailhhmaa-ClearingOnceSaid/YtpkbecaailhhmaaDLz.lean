/-
  The bridge, second part: a call that returns true and changes nothing that was there answers a law's row. Generic in the program; no condition.
-/
import Derived.Test.YtpkbecaailhhmaaDLy
set_option linter.unusedVariables false
set_option linter.unusedSimpArgs false
namespace Go.DL
open Go.RowKit Go.ChangeShapes Go.WideShapes

section
variable {P : Program}

theorem trodAll_stay {H : Type} {enc : TypeId × Value → H} {W W' : World} {sp : Nat → Bool} (hl : laidOutB P = true) : ∀ {ts : List TypeId} {vs : List Value} {ds : List (DataW H)} {ps : List MemPlace},
    DataW.TrodAll enc P W 0 (fun _ => true) true ts vs ds ps → (∀ t ∈ ts, P.readableRec t = true ∧ t < P.types.size) → (∀ p ∈ ps, W.sameAt W' p) → (∀ p ∈ ps, sp p.block = true) → DataW.TrodAll enc P W' 0 sp true ts vs ds ps
  | [], _, _, _, h, _, _, _ => by
    obtain ⟨rfl, rfl, rfl⟩ := trodAll_nil h
    exact trodAll_mk0
  | t :: ts, _, _, _, h, hr, hs, hp => by
    obtain ⟨v, vs, d, ds, a, b, rfl, rfl, rfl, h1, h2⟩ := trodAll_cons h
    exact ⟨a, b, WideElems.Trod_stays hl (hr t List.mem_cons_self).1 (hr t List.mem_cons_self).2 h1 (fun x hx => hs x (List.mem_append_left _ hx)) (fun x hx => hp x (List.mem_append_left _ hx)),
      trodAll_stay hl h2 (fun t ht => hr t (List.mem_cons_of_mem _ ht)) (fun x hx => hs x (List.mem_append_right _ hx)) (fun x hx => hp x (List.mem_append_right _ hx)), rfl⟩

theorem law_call {H : Type} {enc : TypeId × Value → H} {f : FuncId} {fn : Func} {s : ChangeSpec} {apart fresh handsOn : Bool} {W : World} {args : Array Value} {ds gs : List (DataW H)} {before : List MemPlace}
    (hW : DataW.Whole enc P fn.params.toList s.vars apart W args.toList ds gs before) (hl : laidOutB P = true) (hrec : ∀ t ∈ fn.params.toList, P.readableRec t = true ∧ t < P.types.size) (tb : TypeId) (hrt : fn.resultTypes = #[tb]) (htb : P.underlying tb = some .bool)
    (hv : s.vars = []) (hspec : s.fn H ds = { results := [.lit (.bool true)], args := ds }) (Ds : List D) (hlen : args.size = Ds.length) (hrel : ∀ (j : Nat) (c : D), Ds[j]? = some c → ∃ u, args[j]? = some u ∧ RelD W (fun _ => False) c u) (hret : Ret P f Ds (.bool true)) :
    Calls P f args W fun e W' => ∃ v, e = .returned v ∧ s.post enc P fn apart fresh handsOn false W args v W' := by
  refine (hret.2 W (fun _ => False) args (fun _ h => h.elim) hlen hrel).mono ?_
  rintro e W' ⟨v, rfl, hb, hr⟩
  have hvt : v = .bool true := relD_bool hr
  subst hvt
  have hlt := hW.lt
  have hW' := hW
  obtain ⟨p, q, hA, hV, rfl, hfz, hnd⟩ := hW
  rw [hv] at hV
  obtain ⟨rfl, rfl⟩ := trodVars_none hV
  rw [List.append_nil] at hW' hlt
  have hold : ∀ x ∈ p, (fun b => decide (b < W.heap.size)) x.block = true := fun x hx => by simpa using hlt x hx
  refine ⟨.bool true, rfl, ds, [], p, [], p, [], hW', ?_, ?_, ?_, ?_, fun h => by cases h⟩
  · rw [List.append_nil, hspec, hrt]
    exact trodAll_mk1 (shut_bool htb true)
  · rw [List.append_nil, hspec]
    exact trodAll_stay hl hA hrec (fun x hx => hb.same (hlt x hx)) hold
  · rw [List.append_nil, hspec, hv]
    exact rfl
  · exact hb.frame _
end
end Go.DL
