/-
  Texts that belong together, one behind the other; what each of them proves, and under which conditions, its own heading says.
-/
import Derived.WideLaws
import Derived.Shelf.Strconv.Itoa4
import Derived.Shelf.Strconv.ParseIntPublic10
import Derived.Shelf.Strconv.AppendIntPublic10
import Derived.Ground.NamesProg
import Derived.Test.YtimalbkjflfdoaaDoorProg
import Derived.Test.YtimalbkjflfdoaaDoorRows
import Derived.Lib.ItoaLen
import Derived.Lib.ItoaMem
import Derived.Stop.LaidErr
import Derived.Lib.LaidTab
import Derived.Test.YtimalbkjflfdoaaDoorTie
import Derived.Test.YtimalbkjflfdoaaDoorCards
import Derived.WalkKit
import Derived.ProofKit
import Derived.OpenShut
import Derived.Deep.DeepHandedRow
import Derived.Deep.DeepWitnessRowRef
import Derived.Test.YtimalbkjflfdoaaDoorCb
set_option linter.unusedVariables false
set_option linter.unusedSimpArgs false
namespace Go.DL
open Go.RowKit
def inlinePostP (P : Program) (fn : Func) (base' : Nat) (N : DS → Prop) (Z : D → DS → Prop) (dst : Option Tmp) (s : DS) : DX → DS → Prop
  | .normal, s' => ∃ ls, dres P s' fn.results.toList = some ls ∧ N ((s.back s'.bx base').put dst (resLV ls))
  | .ret, s' => ∃ ls, dres P s' fn.results.toList = some ls ∧ N ((s.back s'.bx base').put dst (resLV ls))
  | .panic d, s' => d.scalar = true ∧ Z d (s.back s'.bx base')
  | _, _ => False
section
variable {P : Program} {w : World} {A : Nat → Prop} {M M' : BMap}
theorem TL_panic {base : Nat} {ops : Array Oper} {o : Oper} {rest : List Oper} {Q : DX → DS → Prop} {s : DS} (t : TypeId) (d : D) {x : Operand} (hop : o.op = .panic x) (hg : o.guard = none) (hx : s.ev x = .one (.dat (.iface t d))) (h : Q (.panic (.iface t d)) s) : TL P base ops (o :: rest) Q s := by
  intro E M w a hE hst
  refine wpList_plain hg fun K hK => ?_
  have rx := ev_rel hst.size hst.slots x
  rw [hx] at rx
  simp only [LV.rel, C.rel] at rx
  unfold Oper.wp
  cases hv : a.eval x <;> rw [hv] at rx <;> cases rx
  rename_i v hr
  have hrun : (execOp a.eval o).run P w = .halt (.panic (.iface t v)) w := by
    simp [execOp, hop, hv, Instr.panic, goPanic, Sem.run, Result.andThen]
  rw [hrun]
  exact ⟨E, EnvExt.refl E, .panic (.iface t d), s, M, ⟨_, rfl, .iface _ _ _ hr⟩, h, hst⟩
theorem TL_inlineP {base : Nat} {ops : Array Oper} {o : Oper} {rest : List Oper} {Q : DX → DS → Prop} {s : DS} (base' : Nat) {fop : Operand} {args : Array Operand} {ts : Array TypeId} (f : FuncId) (caps : List (Sum Nat D)) (fn : Func) (c : Code)
    (ho : o.op = .call { callee := .value fop, args := args, argTypes := ts }) (hg : o.guard = none) (hf : s.ev fop = .one (.fn f caps)) (hfn : P.funcs[f]? = some fn) (hname : (fn.name == "runtime.NumGoroutine") = false) (hb : fn.body = some c) (hbase : base ≤ base')
    (h : T P base' c (inlinePostP P fn base' (TL P base ops rest Q) (Q ∘ DX.panic) o.dst s) ⟨args.toList.map s.ev ++ (caps.map capLV ++ List.replicate (fn.ntmps - (args.size + caps.length)) (.one .junk)), s.bx⟩) : TL P base ops (o :: rest) Q s := by
  intro E M w a hE hst
  refine wpList_plain hg fun K hK => ?_
  have hslots := ev_rel hst.size hst.slots
  have hfr := hslots fop
  rw [hf] at hfr
  obtain ⟨cv, hfv, hcs, hcv⟩ := hfr
  unfold Oper.wp
  rw [run_call_func ho hfv ⟨fn, hfn, hname, by rw [hb]; rfl⟩, Oper.upon_enter]
  let E' : Env := ⟨w, E.A0, base', M, fun k => ∃ p ∈ s.bx, boxBlk M p = some k, fun i => i ∈ s.bx.map (·.1), []⟩
  have hO : ∀ k, E'.O k → (E.O k ∨ E.w0.heap.size ≤ k) ∧ k < w.heap.size := fun k ⟨p, hp, hk⟩ => hst.boxes.new p hp k hk
  have hbx' : Boxes E' M w s.bx := {
    ok := hst.boxes.ok
    ids := hst.boxes.ids
    blks := hst.boxes.blks
    new := fun p hp k hk => ⟨.inl ⟨p, hp, hk⟩, (hst.boxes.new p hp k hk).2⟩
    foreign := fun b hb => by
      have h1 := hst.boxes.foreign b hb
      refine ⟨Nat.lt_of_lt_of_le h1.1 hst.boxes.frame.size, fun hob => ?_⟩
      rcases (hO b hob).1 with h2 | h2
      · exact h1.2 h2
      · have := h1.1; omega
    frame := Fr.refl _ _
    old := fun p hp _ => ⟨List.mem_map.2 ⟨p, hp, rfl⟩, rfl, rfl, rfl⟩ }
  refine calls_of_wpMP hfn hb ?_
  have hst' : St E' M w { tmps := args.map a.eval ++ cv ++ Array.replicate (fn.ntmps - (args.map a.eval ++ cv).size) undef, defers := [] } ⟨args.toList.map s.ev ++ (caps.map capLV ++ List.replicate (fn.ntmps - (args.size + caps.length)) (.one .junk)), s.bx⟩ := by
    refine ⟨rfl, by simp [hcs], fun t l hl => ?_, hbx'⟩
    rw [List.getElem?_append] at hl
    simp only [List.length_map, Array.length_toList] at hl
    rw [Array.append_assoc, Array.getD_eq_getD_getElem?, Array.getElem?_append]
    simp only [Array.size_map]
    split at hl
    · rename_i hlt
      simp only [List.getElem?_map, Option.map_eq_some_iff, Array.getElem?_toList] at hl
      obtain ⟨x, hx, rfl⟩ := hl
      rw [if_pos hlt]
      simp only [Array.getElem?_map, hx, Option.map_some, Option.getD_some]
      exact hslots x
    · rename_i hge
      rw [if_neg hge]
      rw [List.getElem?_append] at hl
      simp only [List.length_map] at hl
      rw [Array.getElem?_append, hcs]
      split at hl
      · rename_i hlt
        rw [if_pos hlt]
        simp only [List.getElem?_map, Option.map_eq_some_iff] at hl
        obtain ⟨cp, hcp, rfl⟩ := hl
        obtain ⟨u, hu, hr⟩ := hcv _ cp hcp
        rw [hu, Option.getD_some]
        cases cp with
        | inl i => exact hr
        | inr d => exact hr
      · rw [List.getElem?_replicate] at hl
        split at hl
        · cases hl; trivial
        · cases hl
  refine wp_mono (h E' M w _ rfl hst') ?_
  rintro e a' wE ⟨E1, hext, x, s', M', hx, hq, hstE⟩
  have key1 : ∀ w', St E' M' w' { a' with defers := [] } s' → St E M' w' a (s.back s'.bx base') := by
    intro w' hst2
    have hFr : Fr E.O E.w0 w' := by
      have h1 := hst2.boxes.frame
      have h2 := hst.boxes.frame
      refine ⟨h1.os.trans h2.os, h1.tape.trans h2.tape, h1.output.trans h2.output, Nat.le_trans h2.size h1.size, fun k hk hok => ?_⟩
      refine (h1.block k (Nat.lt_of_lt_of_le hk h2.size) fun hob => ?_).trans (h2.block k hk hok)
      rcases (hO k hob).1 with h3 | h3
      · exact hok h3
      · omega
    have hBox : Boxes E M' w' s'.bx := {
      ok := hst2.boxes.ok
      ids := hst2.boxes.ids
      blks := hst2.boxes.blks
      new := fun p hp k hk => by
        obtain ⟨h1, h2⟩ := hst2.boxes.new p hp k hk
        refine ⟨?_, h2⟩
        rcases h1 with h1 | h1
        · exact (hO k h1).1
        · exact .inr (Nat.le_trans hst.boxes.frame.size h1)
      foreign := hst.boxes.foreign
      frame := hFr
      old := fun p hp hlt => by
        obtain ⟨h1, h2, h3, h4⟩ := hst2.boxes.old p hp (Nat.lt_of_lt_of_le hlt (by show E.base ≤ base'; omega))
        obtain ⟨p0, hp0, he⟩ := List.mem_map.1 h1
        have := hst.boxes.old p0 hp0 (by rw [he]; exact hlt)
        rw [he] at this
        obtain ⟨g1, g2, g3, g4⟩ := this
        exact ⟨g1, h2.trans g2, h3.trans g3, h4.trans g4⟩ }
    have hKeeps : Keeps w (Av E.A0 M s.bx) w' (Av E.A0 M' s'.bx) := by
      intro b off u h1 h2
      have hlt := World.block_lt_of_cell? w ⟨b, off, none⟩ h2
      have hnO : ¬ E'.O b := fun hob => h1 (.inr hob)
      refine ⟨fun h3 => ?_, ?_⟩
      · rcases h3 with h3 | ⟨p, hp, hk⟩
        · exact h1 (.inl h3)
        · rcases (hst2.boxes.new p hp b hk).1 with h4 | h4
          · exact hnO h4
          · exact absurd hlt (Nat.not_lt.2 h4)
      · rw [World.cell?_of_block (hst2.boxes.frame.block b hlt hnO)]; exact h2
    have hlive : ∀ i, liveIn s'.bx base' i = true → M'.blk i = M.blk i ∧ M'.rv i = M.rv i ∧ M'.sz i = M.sz i := by
      intro i hi
      simp only [liveIn, Bool.and_eq_true, List.any_eq_true, beq_iff_eq] at hi
      obtain ⟨h1, p, hp, he⟩ := hi
      have hlt : i < base' := by simpa [Nat.blt_eq] using h1
      obtain ⟨_, h2, h3, h4⟩ := hst2.boxes.old p hp (by rw [he]; exact hlt)
      rw [he] at h2 h3 h4
      exact ⟨h2, h3, h4⟩
    have hcall : St E M' w' a (s.back s'.bx base') := by
      refine ⟨hst.defers, by simp [DS.back, hst.size], fun t l hl => ?_, hBox⟩
      simp only [DS.back, List.getElem?_map, Option.map_eq_some_iff] at hl
      obtain ⟨l', hl', rfl⟩ := hl
      exact LV.keep_rel hlive ((hst.slots t l' hl').mono hKeeps)
    exact hcall
  have key2 : ∀ w', St E' M' w' { a' with defers := [] } s' → (∃ ls, dres P s' fn.results.toList = some ls ∧ TL P base ops rest Q ((s.back s'.bx base').put o.dst (resLV ls))) → ∃ v, (results fn a'.tmps).run P w' = .ok v w' ∧ K (a.put o.dst v) w' := by
    rintro w' hst2 ⟨ls, h1, h2⟩
    obtain ⟨vs, h3, h4, h5⟩ := dres_run (P := P) hst2 _ ls h1
    exact ⟨_, results_run fn a'.tmps vs h3, hK _ _ (h2 E M' w' _ hE ((key1 w' hst2).put o.dst (resLV_rel h4 h5)))⟩
  have fin : (∃ ls, dres P s' fn.results.toList = some ls ∧ TL P base ops rest Q ((s.back s'.bx base').put o.dst (resLV ls))) → ∃ w2, takeAll P a'.defers wE w2 ∧ ∃ v, (results fn a'.tmps).run P w2 = .ok v w2 ∧ K (a.put o.dst v) w2 := by
    intro hq
    obtain ⟨w2, ht, hst'⟩ := St.atEnd (P := P) hext rfl hbx'.foreign hstE
    exact ⟨w2, ht, key2 _ hst' hq⟩
  cases x with
  | normal =>
    cases e <;> simp only [XRel] at hx
    obtain ⟨w2, h1, h2⟩ := fin hq
    exact ⟨w2, h1, .inl ⟨.inl rfl, h2⟩⟩
  | ret =>
    cases e <;> simp only [XRel] at hx
    obtain ⟨w2, h1, h2⟩ := fin hq
    exact ⟨w2, h1, .inl ⟨.inr rfl, h2⟩⟩
  | exit id => exact hq.elim
  | panic d =>
    cases e <;> simp only [XRel] at hx
    obtain ⟨v, rfl, hr⟩ := hx
    obtain ⟨w2, ht, hst'⟩ := St.atEnd (P := P) hext rfl hbx'.foreign hstE
    refine ⟨w2, ht, .inr ⟨_, rfl, ?_⟩⟩
    exact ⟨E, EnvExt.refl E, .panic d, _, M', ⟨v, rfl, scalar_rel hr hq.1⟩, hq.2, key1 w2 hst'⟩

end
end Go.DL

namespace Go.DL
open Go.RowKit
section
variable {α ρ : Type}
def CoR (n : Nat) (G : List (Nat × Box)) (f : α → LV × List (Nat × Box)) (e : D) : α ⊕ Unit → CO → Prop
  | .inl x, co => co = .ret (f x).1 (f x).2
  | .inr _, co => ∃ bx, co = .pan e bx ∧ ∀ i, i < n → bx.lookup i = G.lookup i
theorem CoR_ret {n : Nat} {G : List (Nat × Box)} {f : α → LV × List (Nat × Box)} {e : D} {y : α ⊕ Unit} {l : LV} {bx : List (Nat × Box)} (h : CoR n G f e y (.ret l bx)) : ∃ v, y = .inl v ∧ l = (f v).1 ∧ bx = (f v).2 := by
  cases y with
  | inl v => cases h; exact ⟨v, rfl, rfl, rfl⟩
  | inr u => obtain ⟨_, h, _⟩ := h; cases h
theorem CoR_pan {n : Nat} {G : List (Nat × Box)} {f : α → LV × List (Nat × Box)} {e d : D} {y : α ⊕ Unit} {bx : List (Nat × Box)} (h : CoR n G f e y (.pan d bx)) : y = .inr () ∧ d = e ∧ ∀ i, i < n → bx.lookup i = G.lookup i := by
  cases y with
  | inl v => cases h
  | inr u => obtain ⟨_, h, h2⟩ := h; cases h; exact ⟨rfl, rfl, h2⟩
def bdP (x : Option (α ⊕ Unit)) (k : α → Option ρ) (z : Option ρ) : Option ρ :=
  match x with
  | some (.inl y) => k y
  | some (.inr _) => z
  | none => none
theorem bdP_inv {x : Option (α ⊕ Unit)} {k : α → Option ρ} {z : Option ρ} {r : ρ} (h : bdP x k z = some r) : ∃ y, x = some y ∧ (∀ v, y = .inl v → k v = some r) ∧ (y = .inr () → z = some r) := by
  cases x with
  | none => cases h
  | some y =>
    refine ⟨y, rfl, fun v e => ?_, fun e => ?_⟩
    · subst e; exact h
    · subst e; exact h
def onP (x : Option α) (f : α → Option ρ) (z : Option ρ) : Option ρ :=
  match x with
  | some v => f v
  | none => z
theorem onP_some {x : Option α} {f : α → Option ρ} {z : Option ρ} {r : ρ} {v : α} (h : onP x f z = some r) (hx : x = some v) : f v = some r := by subst hx; exact h
theorem onP_none {x : Option α} {f : α → Option ρ} {z : Option ρ} {r : ρ} (h : onP x f z = some r) (hx : x = none) : z = some r := by subst hx; exact h
end
theorem lookup_filter_not {hand : List Nat} {i : Nat} (hi : hand.contains i = true) (g : Nat → Box → Box) : ∀ l : List (Nat × Box), ((l.filter fun p => !(hand.contains p.1)).map fun p => (p.1, g p.1 p.2)).lookup i = none
  | [] => rfl
  | p :: l => by
    rw [List.filter_cons]
    split
    · rename_i h
      rw [List.map_cons, List.lookup_cons]
      have : (i == p.1) = false := by
        rw [beq_eq_false_iff_ne]; rintro rfl; rw [hi] at h; cases h
      rw [this]
      exact lookup_filter_not hi g l
    · exact lookup_filter_not hi g l
theorem lookup_ren {hand : List Nat} {nb : Nat} (hn : hand.Nodup) (hlt : ∀ j ∈ hand, j < nb) (i : Nat) : ∀ l : List (Nat × Box), (l.map fun p => (ctρ hand nb p.1, p.2.mapi (ctρ hand nb))).lookup (ctρ hand nb i) = (l.lookup i).map (Box.mapi (ctρ hand nb))
  | [] => rfl
  | p :: l => by
    rw [List.map_cons, List.lookup_cons, List.lookup_cons]
    by_cases h : i = p.1
    · subst h; simp
    · have h1 : (i == p.1) = false := by simpa using h
      have h2 : (ctρ hand nb i == ctρ hand nb p.1) = false := by
        rw [beq_eq_false_iff_ne]; exact fun e => h (ctρ_inj hn hlt e)
      rw [h1, h2]
      exact lookup_ren hn hlt i l
theorem after_lk {s : DS} {hand : List Nat} {nb : Nat} {bx' : List (Nat × Box)} {i : Nat} (hn : (decide hand.Nodup && hand.all (fun j => Nat.blt j nb)) = true) (hi : hand[i]? = some i) : (s.after hand nb bx').bx.lookup i = (bx'.lookup i).map (Box.mapi (ctρ hand nb)) := by
  simp only [Bool.and_eq_true, decide_eq_true_eq, List.all_eq_true, Nat.blt_eq] at hn
  have hc : hand.contains i = true := by simpa using List.mem_of_getElem? hi
  have he : ctρ hand nb i = i := by simp [ctρ, hi]
  unfold DS.after
  simp only
  have h1 := lookup_filter_not hc (fun _ b => b.keep (ctOk hand nb bx')) s.bx
  have h2 := lookup_ren hn.1 hn.2 i bx'
  rw [he] at h2
  rw [List.lookup_append, h1, Option.none_or, h2]
theorem lk3 {bx G : List (Nat × Box)} (h0 : bx.lookup 0 = G.lookup 0) (h1 : bx.lookup 1 = G.lookup 1) (h2 : bx.lookup 2 = G.lookup 2) : ∀ i, i < 3 → bx.lookup i = G.lookup i
  | 0, _ => h0
  | 1, _ => h1
  | 2, _ => h2
  | n + 3, h => absurd h (by omega)
section
variable {P : Program} {base : Nat} {Q : DX → DS → Prop} {s : DS} {ops : Array Oper} {o : Oper} {rest : List Oper}
theorem TL_neNil (t t' d : TypeId) (b : Bool) {x : Operand} (hop : o.op = .binOp .neq t x (.const .nilIface) t') (hd : o.dst = some d) (hg : o.guard = none) (ht : P.underlying t = some (.interface (P.methodsAt t)))
    (hx : (b = true ∧ ∃ u c, s.ev x = .one (.dat (.iface u c))) ∨ (b = false ∧ s.ev x = .one (.dat (.con .nilIface)))) (h : TL P base ops rest Q (s.put (some d) (.one (.dat (.bool b))))) : TL P base ops (o :: rest) Q s := by
  intro E M w a hE hst
  refine wpList_plain hg fun K hK => ?_
  have rx := ev_rel hst.size hst.slots x
  unfold Oper.wp
  have hc : a.eval (.const .nilIface) = .nilIface := rfl
  have hrun : (execOp a.eval o).run P w = .ok (.value (.bool b)) w := by
    rcases hx with ⟨rfl, u, c, hx⟩ | ⟨rfl, hx⟩
    · rw [hx] at rx
      simp only [LV.rel, C.rel] at rx
      cases hv : a.eval x <;> rw [hv] at rx <;> cases rx
      have e1 : (eqGuard .neq t x (.const .nilIface) (.iface u ‹_›) .nilIface).run P w = .ok () w := run_eqGuard_plain _ _ _ _ _ _ (by simp) (by simp)
      simp only [execOp, hop, hv, hc, Sem.run_bind, e1, Result.andThen_ok, run_neq_held_nil w t u _ ht, Sem.run_pure]
    · rw [hx] at rx
      simp only [LV.rel, C.rel] at rx
      cases hv : a.eval x <;> rw [hv] at rx <;> cases rx
      have e1 : (eqGuard .neq t x (.const .nilIface) .nilIface .nilIface).run P w = .ok () w := by cases x <;> simp [eqGuard]
      simp only [execOp, hop, hv, hc, Sem.run_bind, e1, Result.andThen_ok, run_neq_nil_nil w t ht, Sem.run_pure]
  rw [hrun]
  refine hK _ _ (h E M _ _ hE ?_)
  rw [hd]
  exact hst.put (some d) (by simp only [LV.rel, C.rel]; exact .bool b)
end
theorem sbm_inv {α ρ : Type} {r : ρ} (sz : Nat) (enc : α → D) {l : List α} {lo : Option Int} {x : Int} {k : List α → Option ρ} (h : sb l lo (some x) k = some r) :
    ∃ y, (subSide (l.map enc).length lo (some x) (some x) ∧ D.sl sz (subList (l.map enc) lo (some x)) = D.sl sz (y.map enc)) ∧ k y = some r := by
  obtain ⟨y, ⟨h1, h2⟩, h3⟩ := sb_inv sz enc h
  refine ⟨y, ⟨?_, h2⟩, h3⟩
  cases lo <;> simp only [subSide] at h1 ⊢ <;> omega
def DS.imp : DS := ⟨[], [(0, .obj fun _ _ _ => False)]⟩
theorem imp_no {E : Env} {M : BMap} {w : World} {a : Act} (h : St E M w a DS.imp) : False := by
  obtain ⟨o, _, _, h3⟩ := h.boxes.ok 0 _ (by simp [DS.imp]; rfl)
  exact h3
section
variable {P : Program} {base : Nat} {Q : DX → DS → Prop} {s : DS}
end
end Go.DL

namespace Go.DL
open Go.RowKit
section
variable {P : Program} {base : Nat} {ops : Array Oper} {Q : DX → DS → Prop} {s : DS}
theorem callU {α : Type} {f : FuncId} {hand : List Nat} {nb : Nat} {ls : List LV} {bx : List (Nat × Box)} {n : Nat} {G : List (Nat × Box)} {F : α → LV × List (Nat × Box)} {er : D} {v : α} {fop : Operand} {args : Array Operand} {ts : Array TypeId} {o : Oper} (caps : List (Sum Nat D))
    (hct : CT P f hand.length ls bx (CoR n G F er (.inl v))) (ids : List Nat) (hids : decide ids.Nodup = true) (ho : o.op = .call { callee := .value fop, args := args, argTypes := ts }) (hg : o.guard = none) (c : Nat) (st st' : Nat → DS) (ms : List Nat)
    (hf : ms.map (fun m => (st m).ev fop) = ms.map fun _ => .one (.fn f caps)) (hargs : ms.map (fun m => args.toList.map (st m).ev ++ caps.map capLV) = ms.map fun _ => ls.map (LV.mapi (ctρ hand nb)))
    (hlook : ms.map (fun m => bx.map fun p => (st m).bx.lookup (ctρ hand nb p.1)) = ms.map fun _ => bx.map fun p => some (p.2.mapi (ctρ hand nb)))
    (hdec : (decide hand.Nodup && hand.all (fun j => Nat.blt j nb) && Nat.ble base nb && ms.all (fun m => (st m).bx.all fun p => Nat.blt p.1 nb) && bx.all (fun p => Nat.blt p.1 hand.length) && decide (bx.map (·.1)).Nodup && hand.all (fun j => bx.any fun q => ctρ hand nb q.1 == j)) = true)
    (hcov : (ms.all fun m => (((st m).after hand nb (F v).2).put o.dst ((F v).1.mapi (ctρ hand nb))).bx.all fun p => ids.contains p.1) = true)
    (hend : ms.map (fun m => (((st m).after hand nb (F v).2).put o.dst ((F v).1.mapi (ctρ hand nb))).order ids) = ms.map fun m => st' (m + 2 ^ c)) : ∀ m ∈ ms, TL P base ops [o] (QE Q (st' (m + 2 ^ c))) (st m) := by
  intro m hm
  simp only [Bool.and_eq_true] at hdec
  obtain ⟨⟨⟨⟨⟨⟨d1, d2⟩, d3⟩, d4⟩, d5⟩, d6⟩, d7⟩ := hdec
  refine TL_ct f hand nb ls bx caps hct ho hg (List.map_inj_left.1 hf m hm) (List.map_inj_left.1 hargs m hm) (List.map_inj_left.1 hlook m hm) ?_ (fun l bx' hR => ?_) (fun d bx' hR => ?_)
  · simp only [Bool.and_eq_true]
    exact ⟨⟨⟨⟨⟨⟨d1, d2⟩, d3⟩, List.all_eq_true.1 d4 m hm⟩, d5⟩, d6⟩, d7⟩
  · obtain ⟨v', hv, rfl, rfl⟩ := CoR_ret hR
    cases hv
    refine TL_nilQ (QE_end ?_)
    rw [← List.map_inj_left.1 hend m hm]
    refine DS.le_order _ ids (of_decide_eq_true hids) fun p hp => ?_
    simpa using List.all_eq_true.1 (List.all_eq_true.1 hcov m hm) p hp
  · cases (CoR_pan hR).1
theorem callP {α : Type} {f : FuncId} {hand : List Nat} {nb : Nat} {ls : List LV} {bx : List (Nat × Box)} {n : Nat} {G : List (Nat × Box)} {F : α → LV × List (Nat × Box)} {er : D} {fop : Operand} {args : Array Operand} {ts : Array TypeId} {o : Oper} (caps : List (Sum Nat D))
    (hct : CT P f hand.length ls bx (CoR n G F er (.inr ()))) (ho : o.op = .call { callee := .value fop, args := args, argTypes := ts }) (hg : o.guard = none) (c : Nat) (st st' : Nat → DS) (ms : List Nat)
    (hf : ms.map (fun m => (st m).ev fop) = ms.map fun _ => .one (.fn f caps)) (hargs : ms.map (fun m => args.toList.map (st m).ev ++ caps.map capLV) = ms.map fun _ => ls.map (LV.mapi (ctρ hand nb)))
    (hlook : ms.map (fun m => bx.map fun p => (st m).bx.lookup (ctρ hand nb p.1)) = ms.map fun _ => bx.map fun p => some (p.2.mapi (ctρ hand nb)))
    (hdec : (decide hand.Nodup && hand.all (fun j => Nat.blt j nb) && Nat.ble base nb && ms.all (fun m => (st m).bx.all fun p => Nat.blt p.1 nb) && bx.all (fun p => Nat.blt p.1 hand.length) && decide (bx.map (·.1)).Nodup && hand.all (fun j => bx.any fun q => ctρ hand nb q.1 == j)) = true)
    (hpan : ∀ (s : DS) bx', (∀ i, i < n → bx'.lookup i = G.lookup i) → Q (.panic er) (s.after hand nb bx')) : ∀ m ∈ ms, TL P base ops [o] (QE Q (st' (m + 2 ^ c))) (st m) := by
  intro m hm
  simp only [Bool.and_eq_true] at hdec
  obtain ⟨⟨⟨⟨⟨⟨d1, d2⟩, d3⟩, d4⟩, d5⟩, d6⟩, d7⟩ := hdec
  refine TL_ct f hand nb ls bx caps hct ho hg (List.map_inj_left.1 hf m hm) (List.map_inj_left.1 hargs m hm) (List.map_inj_left.1 hlook m hm) ?_ (fun l bx' hR => ?_) (fun d bx' hR => ?_)
  · simp only [Bool.and_eq_true]
    exact ⟨⟨⟨⟨⟨⟨d1, d2⟩, d3⟩, List.all_eq_true.1 d4 m hm⟩, d5⟩, d6⟩, d7⟩
  · obtain ⟨v', hv, _, _⟩ := CoR_ret hR
    cases hv
  · obtain ⟨_, rfl, hlk⟩ := CoR_pan hR
    exact hpan _ _ hlk
end
end Go.DL

namespace Go.DL
open Go.RowKit
def looksOnly : Op → Bool
  | .buildSlice _ _ _ => false
  | .call c => match c.callee with
    | .builtin _ => true
    | _ => false
  | .select _ _ => false
  | _ => true
section
variable {P : Program} {w : World} {A : Nat → Prop} {M : BMap}
def PRun (P : Program) (o : Oper) (a : Act) (w : World) (A : Nat → Prop) (M : BMap) (lv : LV) : Prop :=
  ∃ v, (execOp a.eval o).run P w = .ok (.value v) w ∧ LV.rel w A M lv v
theorem PRun.of_run {o : Oper} {a : Act} {lv : LV} {v : Value} (h : (execOp a.eval o).run P w = .ok (.value v) w) (hl : LV.rel w A M lv v) : PRun P o a w A M lv := ⟨v, h, hl⟩
theorem vCall_run {E : Env} {bx : List (Nat × Box)} {o : Oper} {a : Act} {c : Call} {ρ : Operand → LV} {h : Option D} {side : Prop} {lv : LV} (ho : o.op = .call c) (hlk : looksOnly (.call c) = true) (hv : vCall P ρ bx h c = some (side, lv)) (hs : side)
    (hbx : Boxes E M w bx) (hρ : ∀ x ∈ c.operands, LV.rel w (Av E.A0 M bx) M (ρ x) (a.eval x)) : PRun P o a w (Av E.A0 M bx) M lv := by
  obtain ⟨callee, args, ts⟩ := c
  have hargs : ∀ x ∈ args, LV.rel w (Av E.A0 M bx) M (ρ x) (a.eval x) := fun x hx => hρ x (by simp [Call.operands, hx])
  unfold vCall at hv
  simp only at hv
  split at hv
  · split at hv
    · rename_i x t h1 h2
      have e1 : args = #[x] := by rw [← Array.toList_inj]; exact h1
      have e2 : ts = #[t] := by rw [← Array.toList_inj]; exact h2
      subst e1; subst e2
      simp only [Option.map_eq_some_iff] at hv
      obtain ⟨⟨p3, l⟩, h3, hrh⟩ := hv
      obtain ⟨hp3, rfl⟩ := rehint_sound hrh hs
      obtain ⟨r, h4, h5⟩ := vLenM_sound (P := P) (ty := o.type) hbx.ok h3 hp3 (hargs x (by simp))
      refine PRun.of_run (v := r) ?_ h5
      rw [run_builtin ho]
      simp [builtin, h4]
    · cases hv
  · split at hv
    · rename_i x y h1
      have e1 : args = #[x, y] := by rw [← Array.toList_inj]; exact h1
      subst e1
      simp only [Option.map_eq_some_iff, Prod.mk.injEq] at hv
      obtain ⟨l, h3, _, rfl⟩ := hv
      obtain ⟨r, h4, h5⟩ := vMinMax_sound (P := P) (ts := ts) (ty := o.type) h3 (hargs x (by simp)) (hargs y (by simp))
      refine PRun.of_run (v := r) ?_ h5
      rw [run_builtin ho]
      simp only [if_true] at h4
      simp [builtin, h4]
    · cases hv
  · split at hv
    · rename_i x y h1
      have e1 : args = #[x, y] := by rw [← Array.toList_inj]; exact h1
      subst e1
      simp only [Option.map_eq_some_iff, Prod.mk.injEq] at hv
      obtain ⟨l, h3, _, rfl⟩ := hv
      obtain ⟨r, h4, h5⟩ := vMinMax_sound (P := P) (ts := ts) (ty := o.type) h3 (hargs x (by simp)) (hargs y (by simp))
      refine PRun.of_run (v := r) ?_ h5
      rw [run_builtin ho]
      simp only [Bool.false_eq_true, if_false] at h4
      simp [builtin, h4]
    · cases hv
  · simp [looksOnly] at hlk
  · cases hv
theorem pval_run {E : Env} {bx : List (Nat × Box)} {o : Oper} {a : Act} {ρ : Operand → LV} {h : Option D} {side : Prop} {lv : LV} (hv : pval P ρ bx h o = some (side, lv)) (hs : side)
    (hlk : looksOnly o.op = true) (hbx : Boxes E M w bx) (hρ : ∀ x ∈ o.op.operands, LV.rel w (Av E.A0 M bx) M (ρ x) (a.eval x)) : PRun P o a w (Av E.A0 M bx) M lv := by
  obtain ⟨dst, op, type, pos, after, guard⟩ := o
  unfold pval at hv
  cases op <;> simp only [Op.operands] at hρ hv <;> try (cases hv; done)
  case move x =>
    simp only [Option.some.injEq, Prod.mk.injEq] at hv
    obtain ⟨_, rfl⟩ := hv
    exact PRun.of_run (v := a.eval x) (by simp [execOp]) (hρ x (by simp))
  case assign x =>
    simp only [Option.some.injEq, Prod.mk.injEq] at hv
    obtain ⟨_, rfl⟩ := hv
    exact PRun.of_run (v := a.eval x) (by simp [execOp]) (hρ x (by simp))
  case pick c x y =>
    have hc := hρ c (by simp)
    split at hv
    · rename_i t hc1
      rw [hc1] at hc
      simp only [LV.rel, C.rel] at hc
      simp only [Option.some.injEq, Prod.mk.injEq] at hv
      obtain ⟨h1, rfl⟩ := hv
      rw [← h1] at hs
      subst hs
      have hce := relD_bool hc
      exact PRun.of_run (v := a.eval x) (by simp [execOp, hce, asBool]) (hρ x (by simp))
    · rename_i t hc1
      rw [hc1] at hc
      simp only [LV.rel, C.rel] at hc
      simp only [Option.some.injEq, Prod.mk.injEq] at hv
      obtain ⟨h1, rfl⟩ := hv
      rw [← h1] at hs
      subst hs
      have hce := relD_bool hc
      exact PRun.of_run (v := a.eval y) (by simp [execOp, hce, asBool]) (hρ y (by simp))
    · cases hv
  case load t x =>
    obtain ⟨r, h1, h2⟩ := vLoad_sound (P := P) hbx.ok hv hs (hρ x (by simp))
    exact PRun.of_run (v := r) (by simp [execOp, h1]) h2
  case lookup t m x ok =>
    cases ok with
    | true => cases hv
    | false =>
      obtain ⟨r, h1, h2⟩ := vLookup_sound (P := P) hbx.ok hv hs (hρ m (by simp)) (hρ x (by simp))
      exact PRun.of_run (v := r) (by simp [execOp, h1]) h2
  case nilCheck x =>
    simp only [Option.map_eq_some_iff, Prod.mk.injEq] at hv
    obtain ⟨l, h1, _, rfl⟩ := hv
    obtain ⟨h2, h3⟩ := vNilCheck_val h1 (hρ x (by simp))
    refine PRun.of_run (v := a.eval x) ?_ h2
    rcases h3 with ⟨p, hp⟩ | ⟨f, arr, hp⟩ <;> simp [execOp, hp]
  case binOp op t x y yt =>
    obtain ⟨r, h1, h2⟩ := vBin_sound (P := P) (ox := x) (oy := y) hv hs (hρ x (by simp)) (hρ y (by simp))
    refine PRun.of_run (v := r) ?_ h2
    simp only [execOp, Sem.run_bind] at h1 ⊢
    rw [h1]
    rfl
  case unOp op t x =>
    obtain ⟨r, h1, h2⟩ := vUn_sound (P := P) hv hs (hρ x (by simp))
    exact PRun.of_run (v := r) (by simp [execOp, h1]) h2
  case convert s d x =>
    obtain ⟨r, h1, h2⟩ := vConvert_sound (P := P) hv hs (hρ x (by simp))
    exact PRun.of_run (v := r) (by simp [execOp, h1]) h2
  case makeFunc fn first caps =>
    split at hv
    · rename_i f hf
      have e1 : first = #[] := by rw [← Array.toList_inj]; exact hf
      subst e1
      simp only [Option.map_eq_some_iff, Prod.mk.injEq] at hv
      obtain ⟨cs, h1, _, rfl⟩ := hv
      obtain ⟨h2, h3⟩ := capsC_rel (w := w) (A := Av E.A0 M bx) (M := M) _ cs h1 (fun j => (caps.map a.eval)[j]?) (by
        intro j l hj
        simp only [List.getElem?_map, Option.map_eq_some_iff, Array.getElem?_toList] at hj
        obtain ⟨x, hx, rfl⟩ := hj
        exact ⟨a.eval x, by simp [hx], hρ x (by simp [Array.mem_of_getElem? hx])⟩)
      refine PRun.of_run (v := .func (.func f) #[] (caps.map a.eval)) (by simp [execOp, Instr.makeFunc]) ⟨_, rfl, by simp [h2], h3⟩
    · cases hv
  case slice t x lo hi mx =>
    split at hv
    · rename_i rr hvo
      cases hv
      obtain ⟨r, h1, h2⟩ := vSliceO_sound (P := P) (glo := lo.map a.eval) (ghi := hi.map a.eval) (gmx := mx.map a.eval) hvo hs hbx.ok (hρ x (by simp))
        (fun y hy => by cases lo <;> simp at hy ⊢; subst hy; exact hρ _ (by simp)) (fun h => by cases lo <;> simp at h ⊢)
        (fun y hy => by cases hi <;> simp at hy ⊢; subst hy; exact hρ _ (by simp)) (fun h => by cases hi <;> simp at h ⊢)
        (fun h => by cases mx <;> simp at h ⊢)
      exact PRun.of_run (v := r) (by simp [execOp, h1]) h2
    simp only [Option.map_eq_some_iff] at hv
    obtain ⟨⟨side0, lv0⟩, hv, hrh⟩ := hv
    obtain ⟨hs, rfl⟩ := rehint_sound hrh hs
    obtain ⟨r, h1, h2⟩ := vSlice_sound (P := P) (glo := lo.map a.eval) (ghi := hi.map a.eval) (gmx := mx.map a.eval) hv hs (hρ x (by simp))
      (fun y hy => by cases lo <;> simp at hy ⊢; subst hy; exact hρ _ (by simp)) (fun h => by cases lo <;> simp at h ⊢)
      (fun y hy => by cases hi <;> simp at hy ⊢; subst hy; exact hρ _ (by simp)) (fun h => by cases hi <;> simp at h ⊢)
      (fun y hy => by cases mx <;> simp at hy ⊢; subst hy; exact hρ _ (by simp)) (fun h => by cases mx <;> simp at h ⊢)
    exact PRun.of_run (v := r) (by simp [execOp, h1]) h2
  case fieldAddr s x f =>
    simp only [Option.map_eq_some_iff, Prod.mk.injEq] at hv
    obtain ⟨l, h1, _, rfl⟩ := hv
    obtain ⟨r, h1, h2⟩ := vFieldAddr_sound (P := P) h1 (hρ x (by simp))
    exact PRun.of_run (v := r) (by simp [execOp, h1]) h2
  case field s x f =>
    simp only [Option.map_eq_some_iff, Prod.mk.injEq] at hv
    obtain ⟨l, h1, _, rfl⟩ := hv
    obtain ⟨r, h1, h2⟩ := vField_sound (P := P) h1 (hρ x (by simp))
    exact PRun.of_run (v := r) (by simp [execOp, h1]) h2
  case indexAddr t x i =>
    obtain ⟨r, h1, h2⟩ := vIndexAddr_sound (P := P) hv hs hbx.ok (hρ x (by simp)) (hρ i (by simp))
    exact PRun.of_run (v := r) (by simp [execOp, h1]) h2
  case index t x i =>
    obtain ⟨r, h1, h2⟩ := vIndex_sound (P := P) hv hs (hρ x (by simp)) (hρ i (by simp))
    exact PRun.of_run (v := r) (by simp [execOp, h1]) h2
  case build t parts =>
    simp only [Option.map_eq_some_iff, Prod.mk.injEq] at hv
    obtain ⟨l, h1, _, rfl⟩ := hv
    obtain ⟨r, h1, h2⟩ := vBuild_sound (P := P) hbx.ok h1 (parts.map fun p => (p.1, a.eval p.2)) (by simp) (by
      intro j p hj
      simp only [List.getElem?_map, Option.map_eq_some_iff, Array.getElem?_toList] at hj
      obtain ⟨q, hq, rfl⟩ := hj
      refine ⟨a.eval q.2, by simp [hq], hρ _ ?_⟩
      simp only [List.mem_toArray, List.mem_map, Array.mem_toList_iff]
      exact ⟨q, Array.mem_of_getElem? hq, rfl⟩)
    exact PRun.of_run (v := r) (by simp [execOp, h1]) h2
  case buildSlice t len parts => cases hlk
  case extract x i =>
    simp only [Option.map_eq_some_iff, Prod.mk.injEq] at hv
    obtain ⟨l, h1, _, rfl⟩ := hv
    obtain ⟨r, h1, h2⟩ := vExtract_sound (P := P) h1 (hρ x (by simp))
    exact PRun.of_run (v := r) (by simp [execOp, h1]) h2
  case call c => exact vCall_run rfl hlk hv hs hbx hρ
  case makeInterface t x =>
    have hx := hρ x (by simp)
    split at hv
    · cases hv
    · rename_i td d hni hu hd
      simp only [Option.some.injEq, Prod.mk.injEq] at hv
      obtain ⟨_, rfl⟩ := hv
      rw [hd] at hx
      refine PRun.of_run (v := .iface t (a.eval x)) ?_ (RelD.iface _ _ _ hx)
      cases td <;> first | exact (hni _ rfl).elim | simp [execOp, Instr.makeInterface, run_underlying hu]
    · cases hv
end
def looks (o : Oper) : List Nat := o.op.operands.toList.filterMap fun | .tmp t => some t | _ => none
def vOp (P : Program) (o : Oper) (s : DS) (h : Option D) : Option (Prop × DS) :=
  match looksOnly o.op, o.guard with
  | true, none => (pval P s.ev s.bx h o).map fun r => (r.1, s.put o.dst r.2)
  | _, _ => none
def vAt (P : Program) (ops : Array Oper) (hs : List (Option D)) (s : DS) (j : Nat) : Option (Prop × DS) :=
  match ops[j]? with
  | some o => vOp P o s (hs.getD j none)
  | none => none
def vRun (P : Program) (ops : Array Oper) (hs : List (Option D)) : List Nat → DS → Option (Prop × DS)
  | [], s => some (True, s)
  | j :: r, s => match vAt P ops hs s j with
    | some (p, s1) => match vRun P ops hs r s1 with
      | some (q, s2) => some (p ∧ q, s2)
      | none => none
    | none => none
def conj (sides : List Prop) : List Nat → Prop
  | [] => True
  | j :: r => sides.getD j True ∧ conj sides r
theorem conj_of {sides : List Prop} (h : AllP sides) : ∀ js, conj sides js
  | [] => trivial
  | j :: r => ⟨AllP.get h j, conj_of h r⟩
def Ag (pend : Nat → Prop) (a b : Act) : Prop := a.tmps.size = b.tmps.size ∧ a.defers = b.defers ∧ ∀ t, ¬ pend t → a.tmps.getD t undef = b.tmps.getD t undef
theorem putA_get (a : Act) (d : Option Nat) (v : Value) (t : Nat) : (a.put d v).tmps.getD t undef = if d = some t ∧ t < a.tmps.size then v else a.tmps.getD t undef := by
  cases d with
  | none => simp [Act.put]
  | some d =>
    simp only [Act.put, Array.getD_eq_getD_getElem?, Array.getElem?_setIfInBounds, Option.some.injEq]
    by_cases h : d = t
    · subst h
      by_cases h2 : d < a.tmps.size
      · simp [h2]
      · simp [h2]
    · simp [h]
theorem putA_size (a : Act) (d : Option Nat) (v : Value) : (a.put d v).tmps.size = a.tmps.size := by cases d <;> simp [Act.put]
theorem putA_def (a : Act) (d : Option Nat) (v : Value) : (a.put d v).defers = a.defers := by cases d <;> rfl
theorem Ag.refl (p : Nat → Prop) (a : Act) : Ag p a a := ⟨rfl, rfl, fun _ _ => rfl⟩
theorem Ag.mono {p q : Nat → Prop} {a b : Act} (h : Ag p a b) (hpq : ∀ t, p t → q t) : Ag q a b := ⟨h.1, h.2.1, fun t ht => h.2.2 t fun hp => ht (hpq t hp)⟩
theorem Ag.trans {p q : Nat → Prop} {a b c : Act} (h : Ag p a b) (h2 : Ag q b c) : Ag (fun t => p t ∨ q t) a c :=
  ⟨h.1.trans h2.1, h.2.1.trans h2.2.1, fun t ht => (h.2.2 t fun hp => ht (.inl hp)).trans (h2.2.2 t fun hq => ht (.inr hq))⟩
theorem Ag.put {p : Nat → Prop} {a b : Act} (h : Ag p a b) (d : Option Nat) (v : Value) : Ag (fun t => p t ∧ d ≠ some t) (a.put d v) (b.put d v) := by
  refine ⟨by rw [putA_size, putA_size]; exact h.1, by rw [putA_def, putA_def]; exact h.2.1, fun t ht => ?_⟩
  rw [putA_get, putA_get]
  by_cases hd : d = some t
  · by_cases hsz : t < a.tmps.size
    · rw [if_pos ⟨hd, hsz⟩, if_pos ⟨hd, h.1 ▸ hsz⟩]
    · rw [if_neg (fun x => hsz x.2), if_neg (fun x => hsz (h.1 ▸ x.2))]
      have e1 : a.tmps.getD t undef = undef := by rw [Array.getD_eq_getD_getElem?, Array.getElem?_eq_none (by omega)]; rfl
      have e2 : b.tmps.getD t undef = undef := by rw [Array.getD_eq_getD_getElem?, Array.getElem?_eq_none (by have := h.1; omega)]; rfl
      rw [e1, e2]
  · rw [if_neg (fun x => hd x.1), if_neg (fun x => hd x.1)]
    exact h.2.2 t fun hp => ht ⟨hp, hd⟩
theorem Ag.defer {p : Nat → Prop} {a b : Act} (h : Ag p a b) (d : Deferred) : Ag p { a with defers := d :: a.defers } { b with defers := d :: b.defers } := ⟨h.1, by show d :: a.defers = d :: b.defers; rw [h.2.1], h.2.2⟩
theorem Ag.putR (a : Act) (d : Option Nat) (v : Value) : Ag (fun t => d = some t) a (a.put d v) :=
  ⟨(putA_size _ _ _).symm, (putA_def _ _ _).symm, fun t ht => by rw [putA_get, if_neg (fun x => ht x.1)]⟩
theorem Ag.eval {p : Nat → Prop} {a b : Act} (h : Ag p a b) {x : Operand} (hx : ∀ t, x = .tmp t → ¬ p t) : a.eval x = b.eval x := by
  cases x with
  | tmp t => exact h.2.2 t (hx t rfl)
  | _ => rfl
theorem Ag.eq {p : Nat → Prop} {a b : Act} (h : Ag p a b) (hn : ∀ t, ¬ p t) : a = b := by
  obtain ⟨ta, da⟩ := a
  obtain ⟨tb, db⟩ := b
  obtain ⟨h1, h2, h3⟩ := h
  simp only at h1 h2 h3
  subst h2
  congr 1
  apply Array.ext h1
  intro i hi hj
  have := h3 i (hn i)
  simpa [hi, hj] using this
section
variable {P : Program} {w : World} {M : BMap}
theorem vOp_sound {E : Env} {a : Act} {s s' : DS} {o : Oper} {h : Option D} {side : Prop} (hv : vOp P o s h = some (side, s')) (hs : side) (hst : St E M w a s) :
    (∀ cs b, o.op ≠ .select cs b) ∧ ∃ v, (execOp a.eval o).run P w = .ok (.value v) w ∧ St E M w (a.put o.dst v) s' := by
  unfold vOp at hv
  split at hv
  · rename_i hl hg
    simp only [Option.map_eq_some_iff, Prod.mk.injEq] at hv
    obtain ⟨⟨sd, lv⟩, hp, h1, rfl⟩ := hv
    simp only at h1
    rw [← h1] at hs
    obtain ⟨v, hr, hrel⟩ := pval_run hp hs hl hst.boxes (fun x _ => ev_rel hst.size hst.slots x)
    exact ⟨fun cs b e => (by rw [e] at hl; cases hl), v, hr, hst.put o.dst hrel⟩
  · cases hv
theorem vRun_sound {E : Env} {ops : Array Oper} {hs : List (Option D)} : ∀ (js : List Nat) (a : Act) (s s' : DS) (side : Prop), vRun P ops hs js s = some (side, s') → side → St E M w a s →
    ∃ a', St E M w a' s' ∧ Ag (fun t => ∃ j ∈ js, ∃ o, ops[j]? = some o ∧ o.dst = some t) a a'
  | [], a, s, s', side, h, _, hst => by
    simp only [vRun, Option.some.injEq, Prod.mk.injEq] at h
    obtain ⟨_, rfl⟩ := h
    exact ⟨a, hst, Ag.refl _ a⟩
  | j :: r, a, s, s', side, h, hside, hst => by
    unfold vRun at h
    split at h
    · rename_i p s1 h1
      split at h
      · rename_i q s2 h2
        simp only [Option.some.injEq, Prod.mk.injEq] at h
        obtain ⟨h3, rfl⟩ := h
        rw [← h3] at hside
        unfold vAt at h1
        split at h1
        · rename_i o ho
          obtain ⟨_, v, _, hst1⟩ := vOp_sound h1 hside.1 hst
          obtain ⟨a', hst', hag⟩ := vRun_sound r _ s1 s2 q h2 hside.2 hst1
          refine ⟨a', hst', ((Ag.putR a o.dst v).trans hag).mono ?_⟩
          rintro t (ht | ⟨k, hk, hkt⟩)
          · exact ⟨j, List.mem_cons_self, o, ho, ht⟩
          · exact ⟨k, List.mem_cons_of_mem _ hk, hkt⟩
        · cases h1
      · cases h
    · cases h
theorem wp_agree {p : Nat → Prop} {o : Oper} {a b : Act} {K K' : Act → World → Prop} {R R' : Exit → Act → World → Prop} (hs : ∀ cs x, o.op ≠ .select cs x) (hag : Ag p a b) (he : ∀ t ∈ looks o, ¬ p t)
    (hK : ∀ x y w, Ag (fun t => p t ∧ o.dst ≠ some t) x y → K x w → K' y w) (hR : ∀ e w, e ≠ .normal → R e a w → R' e b w) (hL : ¬ LetsOut R) (h : o.wp P a w K R) : o.wp P b w K' R' := by
  have hx : execOp a.eval o = execOp b.eval o := execOp_congr o hs fun x hx => hag.eval fun t e => he t (by subst e; exact List.mem_filterMap.2 ⟨.tmp t, by simpa using hx, rfl⟩)
  unfold Oper.wp at *
  rw [← hx]
  generalize (execOp a.eval o).run P w = r at *
  cases r with
  | ok n w' =>
    cases n <;> simp only [Oper.upon] at h ⊢
    case value v => exact hK _ _ _ (hag.put _ _) h
    case skip => exact hK _ _ _ (hag.put _ _) h
    case defer d => exact hK _ _ _ ((hag.defer d).put _ _) h
    case enter f args =>
      refine Calls.mono h fun e w'' he => ?_
      cases e with
      | returned v => exact hK _ _ _ (hag.put _ _) he
      | panicked ch => exact hR _ _ (by simp) he
      | outgrown => exact absurd he hL
    case row row args => exact Rows.mono h fun v w'' he => hK _ _ _ (hag.put _ _) he
    all_goals exact h
  | halt x w' => cases x <;> simp only [Oper.upon] at h ⊢ <;> first | exact hR _ _ (by simp) h | exact h
end
def clo (cl : List Nat) (i : Nat) : Nat := cl.getD i 0
def closOf (cl : List Nat) : List Edge → Nat
  | [] => 0
  | e :: l => match Region.binds .any e with
    | true => (2 ^ e.on ||| clo cl e.on) ||| closOf cl l
    | false => closOf cl l
def eligP (n : Nat) (cl : List Nat) (im m : Nat) : List Nat := (List.range n).filter fun j => !im.testBit j && Nat.beq ((clo cl j &&& im) &&& m) (clo cl j &&& im)
def nextI (n : Nat) (cl : List Nat) (im m : Nat) : List Nat := (List.range n).filter fun i => im.testBit i && !m.testBit i && Nat.beq ((clo cl i &&& im) &&& m) (clo cl i &&& im)
def forced (n : Nat) (cl : List Nat) (m j : Nat) : Bool := (List.range n).any fun i => m.testBit i && (clo cl i).testBit j
def pendP (n : Nat) (cl : List Nat) (im m : Nat) : List Nat := (eligP n cl im m).filter fun j => !forced n cl m j
def newP (n : Nat) (cl : List Nat) (im m i : Nat) : List Nat := (eligP n cl im (m + 2 ^ i)).filter fun j => (clo cl j).testBit i
def opOk (l : List Oper) (n : Nat) (cl : List Nat) (im j : Nat) : Bool := match l[j]? with
  | some o => o.guard.isNone && (match o.op with | .select _ _ => false | _ => true) && (o.after.toList.all fun e => !Region.binds .any e || Nat.blt e.on j) && Nat.beq (closOf cl o.after.toList) (clo cl j) &&
    (im.testBit j || (match o.dst with
      | none => true
      | some d => !(looks o).contains d && (List.range n).all fun i => Nat.beq i j || (clo cl i).testBit j || (match l[i]? with | some o' => !(looks o').contains d && !(o'.dst == some d) | none => true)))
  | none => false
def stOk (l : List Oper) (n : Nat) (cl : List Nat) (im : Nat) (sets : List Nat) (cut : Option Nat) : Bool :=
  Nat.blt im (2 ^ n) && sets.contains 0 && ((List.range n).all fun j => opOk l n cl im j) &&
  (sets.all fun m => (nextI n cl im m).all fun i => Nat.beq (m + 2 ^ i) (m ||| 2 ^ i) && (cut == some i || sets.contains (m + 2 ^ i)))
theorem closOf_bit (cl : List Nat) (l : List Edge) (j : Nat) : (closOf cl l).testBit j = true ↔ ∃ e ∈ l, Region.binds .any e = true ∧ (e.on = j ∨ (clo cl e.on).testBit j = true) := by
  induction l with
  | nil => simp [closOf]
  | cons e l ih =>
    simp only [closOf]
    split
    · rename_i h
      rw [Nat.testBit_or, Nat.testBit_or, Bool.or_eq_true, Bool.or_eq_true, ih, Nat.testBit_two_pow, decide_eq_true_eq]
      constructor
      · rintro (h1 | ⟨e', h1, h2⟩)
        · exact ⟨e, List.mem_cons_self, h, h1⟩
        · exact ⟨e', List.mem_cons_of_mem _ h1, h2⟩
      · rintro ⟨e', h1, h2, h3⟩
        rcases List.mem_cons.1 h1 with rfl | h4
        · exact .inl h3
        · exact .inr ⟨e', h4, h2, h3⟩
    · rename_i h
      rw [ih]
      constructor
      · rintro ⟨e', h1, h2⟩; exact ⟨e', List.mem_cons_of_mem _ h1, h2⟩
      · rintro ⟨e', h1, h2, h3⟩
        rcases List.mem_cons.1 h1 with rfl | h4
        · rw [h] at h2; cases h2
        · exact ⟨e', h4, h2, h3⟩
theorem sub_bits {a im m : Nat} : Nat.beq ((a &&& im) &&& m) (a &&& im) = true ↔ ∀ k, a.testBit k = true → im.testBit k = true → m.testBit k = true := by
  rw [Nat.beq_eq, and_sub]
  constructor
  · intro h k h1 h2; exact h k (by rw [Nat.testBit_and, h1, h2]; rfl)
  · intro h k h1; rw [Nat.testBit_and, Bool.and_eq_true] at h1; exact h k h1.1 h1.2
theorem mem_elig {n : Nat} {cl : List Nat} {im m j : Nat} : j ∈ eligP n cl im m ↔ j < n ∧ im.testBit j = false ∧ ∀ k, (clo cl j).testBit k = true → im.testBit k = true → m.testBit k = true := by
  simp only [eligP, List.mem_filter, List.mem_range, Bool.and_eq_true, Bool.not_eq_true', sub_bits]
theorem mem_next {n : Nat} {cl : List Nat} {im m i : Nat} : i ∈ nextI n cl im m ↔ i < n ∧ (im.testBit i = true ∧ m.testBit i = false) ∧ ∀ k, (clo cl i).testBit k = true → im.testBit k = true → m.testBit k = true := by
  simp only [nextI, List.mem_filter, List.mem_range, Bool.and_eq_true, Bool.not_eq_true', sub_bits]
def bareL (s : DS) : DS := ⟨s.sl.map fun _ => .one .junk, s.bx⟩
def QBare (Q : DX → DS → Prop) (x : DX) (s : DS) : Prop := Q x (bareL s)
theorem St.bare {E : Env} {M : BMap} {w : World} {p : Nat → Prop} {a b : Act} {s : DS} (h : St E M w a s) (hag : Ag p a b) : St E M w b (bareL s) :=
  ⟨hag.2.1 ▸ h.defers, by simp [bareL, ← hag.1, h.size], fun t l hl => by
    simp only [bareL, List.getElem?_map, Option.map_eq_some_iff] at hl
    obtain ⟨_, _, rfl⟩ := hl
    trivial, h.boxes⟩
theorem TL_one {P : Program} {base : Nat} {ops : Array Oper} {Q : DX → DS → Prop} {s : DS} {o : Oper} (hg : o.guard = none) (h : TL P base ops [o] Q s) {E : Env} {M : BMap} {w : World} {a : Act} (hb : E.base = base) (hst : St E M w a s) : o.wp P a w (Lift E Q .normal) (Lift E Q) := by
  have h1 := h E M w a hb hst
  unfold wpList at h1
  have hw : Region.wanted o (yielded ops a.tmps) = true := by unfold Region.wanted; rw [hg]
  rw [if_pos hw] at h1
  rcases h1 with h1 | h1
  · exact h1
  · exact absurd h1.2 no_out
set_option maxHeartbeats 1000000 in
theorem T_stage {P : Program} {base : Nat} {Q : DX → DS → Prop} {s : DS} {id : Nat} {l : List Oper} (n : Nat) (cl : List Nat) (im : Nat) (hs : List (Option D)) (sides : List Prop) (st : Nat → DS) (mid : Nat → Nat → DS) (sets : List Nat) (cut : Option Nat)
    (hm : P.follows .mixedOrders = true) (hn : l.length = n) (hok : stOk l n cl im sets cut = true)
    (h0 : vRun P l.toArray hs (eligP n cl im 0) s = some (conj sides (eligP n cl im 0), st 0))
    (hP : ∀ m ∈ sets, ∀ j ∈ pendP n cl im m, vAt P l.toArray hs (st m) j = some (sides.getD j True, st m))
    (hN : ∀ m ∈ sets, ∀ i ∈ nextI n cl im m, cut ≠ some i → vRun P l.toArray hs (newP n cl im m i) (mid m i) = some (conj sides (newP n cl im m i), st (m + 2 ^ i)))
    (hside : AllP sides)
    (hI : ∀ m ∈ sets, ∀ i ∈ nextI n cl im m, ∃ o, l.toArray[i]? = some o ∧ TL P base l.toArray [o] (QE (QBare Q) (if cut = some i then DS.imp else mid m i)) (st m))
    (hend : sets.contains im = true → Q .normal (st im)) : T P base (.region id l.toArray true) Q s := by
  subst hn
  simp only [stOk, Bool.and_eq_true, List.all_eq_true, Nat.blt_eq, List.mem_range, Bool.or_eq_true, beq_iff_eq, List.contains_iff_mem] at hok
  obtain ⟨⟨⟨f1, f2⟩, f3⟩, f4⟩ := hok
  have fop : ∀ j o, l.toArray[j]? = some o → j < l.length ∧ o.guard = none ∧ (∀ cs b, o.op ≠ .select cs b) ∧ (∀ e ∈ o.after, Region.binds .any e = true → e.on < j) ∧ closOf cl o.after.toList = clo cl j ∧
      (im.testBit j = false → ∀ d, o.dst = some d → d ∉ looks o ∧ ∀ i o', l.toArray[i]? = some o' → i ≠ j → (clo cl i).testBit j = true ∨ (d ∉ looks o' ∧ o'.dst ≠ some d)) := by
    intro j o ho
    have hlt : j < l.length := by simpa using (Array.getElem?_eq_some_iff.1 ho).1
    have h1 := f3 j hlt
    have ho' : l[j]? = some o := by simpa using ho
    unfold opOk at h1
    rw [ho'] at h1
    simp only [Bool.and_eq_true, Bool.or_eq_true, Option.isNone_iff_eq_none, List.all_eq_true, Bool.not_eq_true', Nat.blt_eq] at h1
    obtain ⟨⟨⟨⟨g1, g2⟩, g3⟩, g4⟩, g5⟩ := h1
    refine ⟨hlt, g1, fun cs b e => (by rw [e] at g2; cases g2), fun e he hb => ?_, Nat.eq_of_beq_eq_true g4, fun hi d hd => ?_⟩
    · rcases g3 e (by simpa using he) with h | h
      · rw [hb] at h; cases h
      · exact h
    · rcases g5 with h | h
      · rw [hi] at h; cases h
      · rw [hd] at h
        simp only [Bool.and_eq_true, Bool.not_eq_true', List.all_eq_true, List.mem_range, Bool.or_eq_true] at h
        refine ⟨fun hc => (by rw [List.contains_iff_mem.2 hc] at h; cases h.1), fun i o' ho2 hne => ?_⟩
        have hlt2 : i < l.length := by simpa using (Array.getElem?_eq_some_iff.1 ho2).1
        have ho3 : l[i]? = some o' := by simpa using ho2
        rcases h.2 i hlt2 with (h2 | h2) | h2
        · exact absurd (Nat.eq_of_beq_eq_true h2) hne
        · exact .inl h2
        · rw [ho3] at h2
          simp only [Bool.and_eq_true, Bool.not_eq_true', beq_eq_false_iff_ne] at h2
          exact .inr ⟨fun hc => (by rw [List.contains_iff_mem.2 hc] at h2; cases h2.1), h2.2⟩
  have fset : ∀ m ∈ sets, ∀ i ∈ nextI l.length cl im m, m + 2 ^ i = m ||| 2 ^ i ∧ (cut = some i ∨ m + 2 ^ i ∈ sets) := fun m hm i hi => by
    have := f4 m hm i hi
    exact ⟨Nat.eq_of_beq_eq_true this.1, this.2⟩
  -- what is listed is closed
  let Cl : Array Bool → Prop := fun L => ∀ i o, l.toArray[i]? = some o → L.getD i false = true → ∀ e ∈ o.after, Region.binds .any e = true → L.getD e.on false = true
  have fclo : ∀ L, Cl L → ∀ i, i < l.length → L.getD i false = true → ∀ j, (clo cl i).testBit j = true → L.getD j false = true := by
    intro L hL i
    induction i using Nat.strongRecOn with
    | ind i ih =>
      intro hi hLi j hj
      have ho : l.toArray[i]? = some l[i] := by simp [hi]
      obtain ⟨_, _, _, g4, g5, _⟩ := fop i _ ho
      rw [← g5, closOf_bit] at hj
      obtain ⟨e, he, hb, h1⟩ := hj
      have he' : e ∈ l[i].after := by simpa using he
      have h2 := hL i _ ho hLi e he' hb
      rcases h1 with rfl | h1
      · exact h2
      · exact ih e.on (g4 e he' hb) (by have := g4 e he' hb; omega) h2 j h1
  have fready : ∀ L, Cl L → ∀ i, i ∈ Region.ready .any l.toArray L → ∀ j, (clo cl i).testBit j = true → L.getD j false = true := by
    intro L hL i hi j hj
    obtain ⟨hun, o, ho, hdep⟩ := mem_ready.1 hi
    obtain ⟨hlt, _, _, g4, g5, _⟩ := fop i o ho
    rw [← g5, closOf_bit] at hj
    obtain ⟨e, he, hb, h1⟩ := hj
    have he' : e ∈ o.after := by simpa using he
    rcases h1 with rfl | h1
    · exact hdep e he' hb
    · exact fclo L hL e.on (by have := g4 e he' hb; omega) (hdep e he' hb) j h1
  let pend : Array Bool → Nat → Nat → Prop := fun L m t => ∃ j o, l.toArray[j]? = some o ∧ j ∈ eligP l.length cl im m ∧ L.getD j false = false ∧ o.dst = some t
  have key : ∀ k L m, L.size = l.length → todo l.length L = k → Cl L → m ∈ sets → (∀ i, m.testBit i = (im.testBit i && L.getD i false)) →
      ∀ (E : Env) (M : BMap) (w : World) (a a' : Act), E.base = base → St E M w a' (st m) → Ag (pend L m) a' a → wpAny P .any l.toArray (Lift E Q) k L a w := by
    intro k
    induction k with
    | zero =>
      intro L m hsz ht hcl hm hmb E M w a a' hb hst hag
      have hall := todo_zero ht
      have hr : Region.ready .any l.toArray L = [] := by
        rw [List.eq_nil_iff_forall_not_mem]
        intro i hi
        obtain ⟨hun, o, hoi, _⟩ := mem_ready.1 hi
        have hlt : i < l.length := by simpa using (Array.getElem?_eq_some_iff.1 hoi).1
        have h1 := hall i hlt
        rw [getD_both hun] at h1; cases h1
      have hmi : m = im := by
        apply Nat.eq_of_testBit_eq
        intro i
        rw [hmb i]
        by_cases hi : i < l.length
        · rw [hall i hi, Bool.and_true]
        · have : im.testBit i = false := Nat.testBit_lt_two_pow (Nat.lt_of_lt_of_le f1 (Nat.pow_le_pow_right (by omega) (by omega)))
          rw [this]; rfl
      have e : a' = a := hag.eq (by
        rintro t ⟨j, o, ho, hj, hL, _⟩
        rw [hall j (mem_elig.1 hj).1] at hL; cases hL)
      subst e
      subst hmi
      exact ⟨hr, E, EnvExt.refl E, .normal, st m, M, trivial, hend (by simpa using hm), hst⟩
    | succ k ih =>
      intro L m hsz ht hcl hm hmb E M w a a' hb hst hag
      refine ⟨fun hr => ?_, fun i hi => ?_⟩
      · obtain ⟨i, h1, h2, h3⟩ := exists_todo ht
        have ho : l.toArray[i]? = some l[i] := by simp [h1]
        have : i ∈ Region.ready .any l.toArray L := mem_ready.2 ⟨getD_in (by omega) h2, _, ho, fun e he hbn => h3 _ ((fop i _ ho).2.2.2.1 e he hbn)⟩
        rw [hr] at this; cases this
      · obtain ⟨hun, o, ho, hdep⟩ := mem_ready.1 hi
        obtain ⟨hlt, hg, hsel, g4, g5, g6⟩ := fop i o ho
        have hrc := fready L hcl i hi
        have hun' := getD_both hun
        have hsz' : (L.setIfInBounds i true).size = l.length := by simp [hsz]
        have htd : todo l.length (L.setIfInBounds i true) = k := by
          have := todo_set (n := l.length) (i := i) (listed := L) hlt (by omega) hun'
          omega
        have hget : ∀ j, (L.setIfInBounds i true).getD j false = (decide (j = i) || L.getD j false) := by
          intro j
          simp only [Array.getD_eq_getD_getElem?, Array.getElem?_setIfInBounds]
          by_cases hij : i = j
          · subst hij; simp [hsz, hlt]
          · have : ¬ j = i := fun e => hij e.symm
            simp [hij, this]
        have hcl' : Cl (L.setIfInBounds i true) := by
          intro j o' ho' hj e he hbn
          rw [hget] at hj ⊢
          rw [Bool.or_eq_true] at hj ⊢
          right
          rcases hj with hj | hj
          · have : j = i := by simpa using hj
            subst this
            rw [ho] at ho'; cases ho'
            exact hdep e he hbn
          · exact hcl j o' ho' hj e he hbn
        have hlooks : ∀ t ∈ looks o, ¬ pend L m t := by
          rintro t ht ⟨j, o', ho', hj, hL, hd⟩
          have h1 := (fop j o' ho').2.2.2.2.2 (mem_elig.1 hj).2.1 t hd
          by_cases hij : i = j
          · subst hij; rw [ho] at ho'; cases ho'; exact h1.1 ht
          · rcases h1.2 i o ho hij with h2 | h2
            · rw [hrc j h2] at hL; cases hL
            · exact h2.1 ht
        have hsub : ∀ q, (clo cl i).testBit q = true → im.testBit q = true → m.testBit q = true := fun q h1 h2 => by rw [hmb, h2, hrc q h1]; rfl
        have hwant : Region.wanted o (yielded l.toArray a.tmps) = true := by unfold Region.wanted; rw [hg]
        unfold wpOp
        rw [ho]
        dsimp only
        rw [if_pos hwant]
        left
        by_cases him : im.testBit i = true
        · -- it touches memory
          have hmi : m.testBit i = false := by rw [hmb, hun', Bool.and_false]
          have hnx : i ∈ nextI l.length cl im m := mem_next.2 ⟨hlt, ⟨him, hmi⟩, hsub⟩
          obtain ⟨o', ho', hT⟩ := hI m hm i hnx
          rw [ho] at ho'; cases ho'
          obtain ⟨hadd, hin⟩ := fset m hm i hnx
          refine wp_agree hsel hag hlooks (fun x y w' hxy hK => ?_) ?_ no_out (TL_one hg hT hb hst)
          · obtain ⟨E', hext, q, s', M', hx, hq, hst'⟩ := hK
            cases q <;> simp only [XRel] at hx
            obtain ⟨M'', h2⟩ := hq E' M' w' x hst'
            by_cases hcut : cut = some i
            · rw [if_pos hcut] at h2
              exact (imp_no h2).elim
            · rw [if_neg hcut] at h2
              obtain ⟨a2, h3, hag2⟩ := vRun_sound _ x _ _ _ (hN m hm i hnx hcut) (conj_of hside _) h2
              refine wpAny_mono (fun _ _ _ => Lift.ext hext) _ _ _ _ (ih (L.setIfInBounds i true) (m + 2 ^ i) hsz' htd hcl' (hin.resolve_left hcut) ?_ E' M'' w' y a2 (hext.base.trans hb) h3 ?_)
              · intro q
                rw [hadd, Nat.testBit_or, Nat.testBit_two_pow, hmb, hget]
                by_cases hq : i = q
                · subst hq; simp [him]
                · have : ¬ q = i := fun e => hq e.symm
                  simp [hq, this]
              · have hag3 : Ag (fun t => ∃ j ∈ newP l.length cl im m i, ∃ o, l.toArray[j]? = some o ∧ o.dst = some t) a2 x := ⟨hag2.1.symm, hag2.2.1.symm, fun t ht => (hag2.2.2 t ht).symm⟩
                refine (hag3.trans hxy).mono ?_
                rintro t (⟨j, hj, oj, hoj, hd⟩ | ⟨⟨j, oj, hoj, hj, hL, hd⟩, hne⟩)
                · simp only [newP, List.mem_filter] at hj
                  refine ⟨j, oj, hoj, hj.1, ?_, hd⟩
                  rw [hget]
                  have hji : ¬ j = i := fun e => by subst e; have := (mem_elig.1 hj.1).2.1; rw [him] at this; cases this
                  cases hLj : L.getD j false with
                  | false => simp [hji]
                  | true =>
                    have := fclo L hcl j (mem_elig.1 hj.1).1 hLj i hj.2
                    rw [hun'] at this; cases this
                · refine ⟨j, oj, hoj, ?_, ?_, hd⟩
                  · have h4 := mem_elig.1 hj
                    refine mem_elig.2 ⟨h4.1, h4.2.1, fun q h5 h6 => ?_⟩
                    rw [hadd, Nat.testBit_or, h4.2.2 q h5 h6]; rfl
                  · rw [hget, hL]
                    have hji : ¬ j = i := fun e => by subst e; have := (mem_elig.1 hj).2.1; rw [him] at this; cases this
                    simp [hji]
          · rintro e w' hne ⟨E', hext, q, s', M', hx, hq, hst'⟩
            refine ⟨E', hext, q, bareL s', M', hx, ?_, hst'.bare hag⟩
            cases q with
            | normal => cases e <;> simp_all [XRel]
            | _ => exact hq
        · -- it only looks
          have him' : im.testBit i = false := by simpa using him
          have hel : i ∈ eligP l.length cl im m := mem_elig.2 ⟨hlt, him', hsub⟩
          have hpe : i ∈ pendP l.length cl im m := by
            refine List.mem_filter.2 ⟨hel, ?_⟩
            rw [Bool.not_eq_true', ← Bool.not_eq_true]
            intro hf
            simp only [forced, List.any_eq_true, List.mem_range, Bool.and_eq_true] at hf
            obtain ⟨q, hq, h1, h2⟩ := hf
            rw [hmb, Bool.and_eq_true] at h1
            have := fclo L hcl q hq h1.2 i h2
            rw [hun'] at this; cases this
          have hv := hP m hm i hpe
          unfold vAt at hv
          rw [ho] at hv
          obtain ⟨_, v, hrun, hst'⟩ := vOp_sound hv (AllP.get hside i) hst
          have hx : execOp a'.eval o = execOp a.eval o := execOp_congr o hsel fun x hx => hag.eval fun t e => hlooks t (by subst e; exact List.mem_filterMap.2 ⟨.tmp t, by simpa using hx, rfl⟩)
          unfold Oper.wp
          rw [← hx, hrun, Oper.upon_value]
          refine ih (L.setIfInBounds i true) m hsz' htd hcl' hm ?_ E M w _ _ hb hst' ((hag.put o.dst v).mono ?_)
          · intro q
            rw [hget, hmb]
            by_cases hq : q = i
            · subst hq; simp [him']
            · simp [hq]
          · rintro t ⟨⟨j, oj, hoj, hj, hL, hd⟩, hne⟩
            refine ⟨j, oj, hoj, hj, ?_, hd⟩
            rw [hget, hL]
            have hji : ¬ j = i := fun e => by subst e; rw [ho] at hoj; cases hoj; exact hne hd
            simp [hji]
  intro E M w a hbase hst
  refine wp_region_any hm ?_
  have hw : Below w.heap.size w { w with drawn := w.drawn + 1 } := ⟨rfl, rfl, rfl, Nat.le_refl _, fun _ _ => rfl⟩
  obtain ⟨a', h1, hag⟩ := vRun_sound _ a _ _ _ h0 (conj_of hside _) (hst.below hw)
  have t0 : todo l.length (Array.replicate l.length false) = l.length := by
    unfold todo
    rw [List.filter_eq_self.2]
    · exact List.length_range
    · intro i hi
      simp only [Array.getD_eq_getD_getElem?, Array.getElem?_replicate]
      split <;> rfl
  have hz : ∀ j, (Array.replicate l.length false).getD j false = false := fun j => getD_replicate_false _ _
  refine key l.length (Array.replicate l.length false) 0 (by simp) t0 (fun i o ho hL => by rw [hz] at hL; cases hL) f2 (fun i => by rw [Nat.zero_testBit, hz, Bool.and_false]) E M _ a a' hbase h1 ?_
  refine (show Ag _ a' a from ⟨hag.1.symm, hag.2.1.symm, fun t ht => (hag.2.2 t ht).symm⟩).mono ?_
  rintro t ⟨j, hj, o, ho, hd⟩
  exact ⟨j, o, ho, hj, hz j, hd⟩
def fullM (n : Nat) (cl : List Nat) (im m : Nat) : Nat := (eligP n cl im m).foldl (fun a j => a ||| 2 ^ j) m
def pendL (n : Nat) (cl : List Nat) (im : Nat) (sets : List Nat) : List (Nat × Nat) := sets.flatMap fun m => (pendP n cl im m).map fun j => (m, j)
def cutIs (cut : Option Nat) (i : Nat) : Bool := match cut with
  | some c => Nat.beq c i
  | none => false
def nextL (n : Nat) (cl : List Nat) (im : Nat) (sets : List Nat) (cut : Option Nat) : List (Nat × Nat) := sets.flatMap fun m => ((nextI n cl im m).filter fun i => !cutIs cut i).map fun i => (m, i)
def opsL (n : Nat) (cl : List Nat) (im : Nat) (sets cs : List Nat) : List (Nat × Nat) := sets.flatMap fun m => ((nextI n cl im m).filter fun i => !cs.contains i).map fun i => (m, i)
def callL (n : Nat) (cl : List Nat) (im : Nat) (sets : List Nat) (c : Nat) : List Nat := sets.filter fun m => (nextI n cl im m).contains c
theorem mem_pairs {sets : List Nat} {f : Nat → List Nat} {m i : Nat} (hm : m ∈ sets) (hi : i ∈ f m) : (m, i) ∈ sets.flatMap fun m => (f m).map fun i => (m, i) :=
  List.mem_flatMap.2 ⟨m, hm, List.mem_map.2 ⟨i, hi, rfl⟩⟩
theorem cutIs_t {cut : Option Nat} {i : Nat} : cutIs cut i = true ↔ cut = some i := by
  cases cut with
  | none => simp [cutIs]
  | some c => simp [cutIs, Nat.beq_eq]
def stS (s : DS) (vals : List (Nat × Nat × LV)) (bxs : List (Nat × Nat × Option Box)) (ids : List Nat) (n : Nat) (cl : List Nat) (im m : Nat) : DS := stM s vals bxs ids (fullM n cl im m)
def miS (s : DS) (vals : List (Nat × Nat × LV)) (bxs : List (Nat × Nat × Option Box)) (ids : List Nat) (n : Nat) (cl : List Nat) (im i m : Nat) : DS := stM s vals bxs ids (fullM n cl im (m - 2 ^ i) ||| 2 ^ i)
theorem T_stC {P : Program} {base : Nat} {Q : DX → DS → Prop} {s : DS} {id : Nat} {l : List Oper} (hs : List AH) (sides : List Prop) (vals : List (Nat × Nat × LV)) (bxs : List (Nat × Nat × Option Box)) (ids : List Nat) (n : Nat) (cl : List Nat) (im : Nat) (sets cs : List Nat) (cut : Option Nat)
    (hm : P.follows .mixedOrders = true) (hids : decide ids.Nodup = true) (hn : l.length = n) (hok : stOk l n cl im sets cut = true)
    (h0 : vRun P l.toArray (hs.map fun h => h.h.d) (eligP n cl im 0) s = some (conj sides (eligP n cl im 0), stS s vals bxs ids n cl im 0))
    (hP : (pendL n cl im sets).map (fun e => vAt P l.toArray (hs.map fun h => h.h.d) (stS s vals bxs ids n cl im e.1) e.2) = (pendL n cl im sets).map fun e => some (sides.getD e.2 True, stS s vals bxs ids n cl im e.1))
    (hN : (nextL n cl im sets cut).map (fun e => vRun P l.toArray (hs.map fun h => h.h.d) (newP n cl im e.1 e.2) (miS s vals bxs ids n cl im e.2 (e.1 + 2 ^ e.2))) = (nextL n cl im sets cut).map fun e => some (conj sides (newP n cl im e.1 e.2), stS s vals bxs ids n cl im (e.1 + 2 ^ e.2)))
    (hE : (opsL n cl im sets cs).map (anyEdge P base l.toArray hs (stS s vals bxs ids n cl im) ids) = (opsL n cl im sets cs).map fun e => some (sides.getD e.2 True, miS s vals bxs ids n cl im e.2 (e.1 + 2 ^ e.2)))
    (hcut : ((opsL n cl im sets cs).all fun e => !cutIs cut e.2) = true) (hside : AllP sides)
    (hC : ∀ c ∈ cs, ∃ o, l.toArray[c]? = some o ∧ ∀ m ∈ callL n cl im sets c, TL P base l.toArray [o] (QE (QBare Q) ((match cutIs cut c with | true => fun _ => DS.imp | false => miS s vals bxs ids n cl im c) (m + 2 ^ c))) (stS s vals bxs ids n cl im m))
    (hend : sets.contains im = true → Q .normal (stS s vals bxs ids n cl im im)) : T P base (.region id l.toArray true) Q s := by
  refine T_stage n cl im (hs.map fun h => h.h.d) sides (stS s vals bxs ids n cl im) (fun m i => miS s vals bxs ids n cl im i (m + 2 ^ i)) sets cut hm hn hok h0 (fun m hm j hj => ?_) (fun m hm i hi hc => ?_) hside (fun m hm i hi => ?_) hend
  · exact List.map_inj_left.1 hP (m, j) (mem_pairs hm hj)
  · refine List.map_inj_left.1 hN (m, i) (mem_pairs (f := fun m => (nextI n cl im m).filter fun i => !cutIs cut i) hm (List.mem_filter.2 ⟨hi, ?_⟩))
    rw [Bool.not_eq_true', ← Bool.not_eq_true, cutIs_t]; exact hc
  · cases hcs : cs.contains i with
    | true =>
      obtain ⟨o, ho, h⟩ := hC i (by simpa using hcs)
      refine ⟨o, ho, ?_⟩
      have h1 := h m (List.mem_filter.2 ⟨hm, by simpa using hi⟩)
      cases hq : cutIs cut i with
      | true => rw [hq] at h1; rw [if_pos (cutIs_t.1 hq)]; exact h1
      | false => rw [hq] at h1; rw [if_neg (fun e => by rw [cutIs_t.2 e] at hq; cases hq)]; exact h1
    | false =>
      have hmem : (m, i) ∈ opsL n cl im sets cs := mem_pairs (f := fun m => (nextI n cl im m).filter fun i => !cs.contains i) hm (List.mem_filter.2 ⟨hi, by simp only [hcs]; rfl⟩)
      have h1 := List.map_inj_left.1 hE (m, i) hmem
      have h2 := List.all_eq_true.1 hcut (m, i) hmem
      rw [if_neg (fun e => by simp [cutIs_t.2 e] at h2)]
      exact anyEdge_sound (of_decide_eq_true hids) h1 (AllP.get hside i)
end Go.DL

namespace Go.Proofs
open Go.Shelf
def Tryd.lformat_ren : Go.Shelf.Ren := ⟨fun | 173 => 58 | 246 => 63 | 283 => 64 | 284 => 65 | 285 => 66 | 286 => 67 | 129 => 74 | 317 => 73 | 318 => 75 | 319 => 76 | 320 => 77 | 337 => 83 | 338 => 84 | n => n, fun | 2 => 2 | 3 => 3 | 9 => 9 | 4 => 4 | 171 => 91 | 0 => 0 | 53 => 78 | 37 => 28 | 5 => 5 | 173 => 94 | 212 => 105 | 51 => 106 | 20 => 20 | 213 => 107 | 46 => 99 | 232 => 121 | 233 => 122 | n => n, fun | 17 => 0 | 18 => 3 | 19 => 4 | n => n⟩
theorem Tryd.lformat : Go.Proofs.LaysM.n173 Tryd.prog Tryd.lformat_ren := {
  mixed := by kernel_rfl
  f129 := Tryd.func74.trans (congrArg some (by kernel_rfl))
  f173 := Tryd.func58.trans (congrArg some (by kernel_rfl))
  f246 := Tryd.func63.trans (congrArg some (by kernel_rfl))
  f283 := Tryd.func64.trans (congrArg some (by kernel_rfl))
  f284 := Tryd.func65.trans (congrArg some (by kernel_rfl))
  f285 := Tryd.func66.trans (congrArg some (by kernel_rfl))
  f286 := Tryd.func67.trans (congrArg some (by kernel_rfl))
  f317 := Tryd.func73.trans (congrArg some (by kernel_rfl))
  f318 := Tryd.func75.trans (congrArg some (by kernel_rfl))
  f319 := Tryd.func76.trans (congrArg some (by kernel_rfl))
  f320 := Tryd.func77.trans (congrArg some (by kernel_rfl))
  f337 := Tryd.func83.trans (congrArg some (by kernel_rfl))
  f338 := Tryd.func84.trans (congrArg some (by kernel_rfl))
  t0 := Tryd.underlying0
  a0 := Tryd.isAgg0
  z0 := Tryd.sizeOf0
  v0 := Tryd.zeroValue0
  t2 := Tryd.underlying2
  a2 := Tryd.isAgg2
  z2 := Tryd.sizeOf2
  v2 := Tryd.zeroValue2
  t3 := Tryd.underlying3
  a3 := Tryd.isAgg3
  z3 := Tryd.sizeOf3
  v3 := Tryd.zeroValue3
  t4 := Tryd.underlying4
  a4 := Tryd.isAgg4
  z4 := Tryd.sizeOf4
  v4 := Tryd.zeroValue4
  t5 := Tryd.underlying5
  a5 := Tryd.isAgg5
  z5 := Tryd.sizeOf5
  v5 := Tryd.zeroValue5
  t9 := Tryd.underlying9
  a9 := Tryd.isAgg9
  z9 := Tryd.sizeOf9
  v9 := Tryd.zeroValue9
  t20 := Tryd.underlying20
  a20 := Tryd.isAgg20
  z20 := Tryd.sizeOf20
  v20 := Tryd.zeroValue20
  t37 := Tryd.underlying28
  a37 := Tryd.isAgg28
  z37 := Tryd.sizeOf28
  v37 := Tryd.zeroValue28
  t46 := Tryd.underlying99
  a46 := Tryd.isAgg99
  z46 := Tryd.sizeOf99
  v46 := Tryd.zeroValue99
  t51 := Tryd.underlying106
  a51 := Tryd.isAgg106
  z51 := Tryd.sizeOf106
  v51 := Tryd.zeroValue106
  t53 := Tryd.underlying78
  a53 := Tryd.isAgg78
  z53 := Tryd.sizeOf78
  v53 := Tryd.zeroValue78
  t171 := Tryd.underlying91
  a171 := Tryd.isAgg91
  z171 := Tryd.sizeOf91
  v171 := Tryd.zeroValue91
  t173 := Tryd.underlying94
  a173 := Tryd.isAgg94
  z173 := Tryd.sizeOf94
  v173 := Tryd.zeroValue94
  t212 := Tryd.underlying105
  a212 := Tryd.isAgg105
  z212 := Tryd.sizeOf105
  v212 := Tryd.zeroValue105
  t213 := Tryd.underlying107
  a213 := Tryd.isAgg107
  z213 := Tryd.sizeOf107
  t232 := Tryd.underlying121
  a232 := Tryd.isAgg121
  z232 := Tryd.sizeOf121
  v232 := Tryd.zeroValue121
  t233 := Tryd.underlying122
  a233 := Tryd.isAgg122
  z233 := Tryd.sizeOf122
  v233 := Tryd.zeroValue122
  g17 := by kernel_rfl
  g18 := by kernel_rfl
  g19 := by kernel_rfl
  i0 := by kernel_rfl
  i2 := by kernel_rfl
  i3 := by kernel_rfl
  i4 := by kernel_rfl
  i5 := by kernel_rfl
  i9 := by kernel_rfl
  i20 := by kernel_rfl
  i37 := by kernel_rfl
  i46 := by kernel_rfl
  i51 := by kernel_rfl
  i53 := by kernel_rfl
  i171 := by kernel_rfl
  i173 := by kernel_rfl
  i212 := by kernel_rfl
  i232 := by kernel_rfl
  i233 := by kernel_rfl
  m17 := by kernel_rfl
  m18 := by kernel_rfl
  m19 := by kernel_rfl }
def Tryd.lparse_ren : Go.Shelf.Ren := ⟨fun | 174 => 57 | 247 => 61 | 245 => 62 | 287 => 68 | 279 => 69 | 280 => 70 | 281 => 71 | 282 => 72 | 321 => 78 | 322 => 79 | 316 => 80 | 171 => 82 | 205 => 81 | 243 => 85 | 246 => 63 | 283 => 64 | 284 => 65 | 285 => 66 | 286 => 67 | 129 => 74 | 317 => 73 | 318 => 75 | 319 => 76 | 320 => 77 | 337 => 83 | 338 => 84 | n => n, fun | 9 => 9 | 3 => 3 | 2 => 2 | 75 => 84 | 85 => 85 | 4 => 4 | 167 => 96 | 5 => 5 | 53 => 78 | 175 => 97 | 46 => 99 | 168 => 100 | 37 => 28 | 0 => 0 | 210 => 114 | 21 => 21 | 127 => 117 | 145 => 120 | 143 => 118 | 171 => 91 | 173 => 94 | 212 => 105 | 51 => 106 | 20 => 20 | 213 => 107 | 232 => 121 | 233 => 122 | 80 => 75 | n => n, fun | 15 => 1 | 16 => 2 | 17 => 0 | 18 => 3 | 19 => 4 | n => n⟩
theorem Tryd.lparse : Go.Proofs.LaysC.n174 Tryd.prog Tryd.lparse_ren := {
  mixed := by kernel_rfl
  f129 := Tryd.func74.trans (congrArg some (by kernel_rfl))
  f171 := Tryd.func82.trans (congrArg some (by kernel_rfl))
  f174 := Tryd.func57.trans (congrArg some (by kernel_rfl))
  f205 := Tryd.func81.trans (congrArg some (by kernel_rfl))
  f243 := Tryd.func85.trans (congrArg some (by kernel_rfl))
  f245 := Tryd.func62.trans (congrArg some (by kernel_rfl))
  f246 := Tryd.func63.trans (congrArg some (by kernel_rfl))
  f247 := Tryd.func61.trans (congrArg some (by kernel_rfl))
  f279 := Tryd.func69.trans (congrArg some (by kernel_rfl))
  f280 := Tryd.func70.trans (congrArg some (by kernel_rfl))
  f281 := Tryd.func71.trans (congrArg some (by kernel_rfl))
  f282 := Tryd.func72.trans (congrArg some (by kernel_rfl))
  f283 := Tryd.func64.trans (congrArg some (by kernel_rfl))
  f284 := Tryd.func65.trans (congrArg some (by kernel_rfl))
  f285 := Tryd.func66.trans (congrArg some (by kernel_rfl))
  f286 := Tryd.func67.trans (congrArg some (by kernel_rfl))
  f287 := Tryd.func68.trans (congrArg some (by kernel_rfl))
  f316 := Tryd.func80.trans (congrArg some (by kernel_rfl))
  f317 := Tryd.func73.trans (congrArg some (by kernel_rfl))
  f318 := Tryd.func75.trans (congrArg some (by kernel_rfl))
  f319 := Tryd.func76.trans (congrArg some (by kernel_rfl))
  f320 := Tryd.func77.trans (congrArg some (by kernel_rfl))
  f321 := Tryd.func78.trans (congrArg some (by kernel_rfl))
  f322 := Tryd.func79.trans (congrArg some (by kernel_rfl))
  f337 := Tryd.func83.trans (congrArg some (by kernel_rfl))
  f338 := Tryd.func84.trans (congrArg some (by kernel_rfl))
  t0 := Tryd.underlying0
  a0 := Tryd.isAgg0
  z0 := Tryd.sizeOf0
  v0 := Tryd.zeroValue0
  t2 := Tryd.underlying2
  a2 := Tryd.isAgg2
  z2 := Tryd.sizeOf2
  v2 := Tryd.zeroValue2
  t3 := Tryd.underlying3
  a3 := Tryd.isAgg3
  z3 := Tryd.sizeOf3
  v3 := Tryd.zeroValue3
  t4 := Tryd.underlying4
  a4 := Tryd.isAgg4
  z4 := Tryd.sizeOf4
  v4 := Tryd.zeroValue4
  t5 := Tryd.underlying5
  a5 := Tryd.isAgg5
  z5 := Tryd.sizeOf5
  v5 := Tryd.zeroValue5
  t9 := Tryd.underlying9
  a9 := Tryd.isAgg9
  z9 := Tryd.sizeOf9
  v9 := Tryd.zeroValue9
  t20 := Tryd.underlying20
  a20 := Tryd.isAgg20
  z20 := Tryd.sizeOf20
  v20 := Tryd.zeroValue20
  t21 := Tryd.underlying21
  a21 := Tryd.isAgg21
  z21 := Tryd.sizeOf21
  v21 := Tryd.zeroValue21
  t37 := Tryd.underlying28
  a37 := Tryd.isAgg28
  z37 := Tryd.sizeOf28
  v37 := Tryd.zeroValue28
  t46 := Tryd.underlying99
  a46 := Tryd.isAgg99
  z46 := Tryd.sizeOf99
  v46 := Tryd.zeroValue99
  t51 := Tryd.underlying106
  a51 := Tryd.isAgg106
  z51 := Tryd.sizeOf106
  v51 := Tryd.zeroValue106
  t53 := Tryd.underlying78
  a53 := Tryd.isAgg78
  z53 := Tryd.sizeOf78
  v53 := Tryd.zeroValue78
  t75 := Tryd.underlying84
  a75 := Tryd.isAgg84
  z75 := Tryd.sizeOf84
  v75 := Tryd.zeroValue84
  t85 := Tryd.underlying85
  a85 := Tryd.isAgg85
  z85 := Tryd.sizeOf85
  v85 := Tryd.zeroValue85
  t127 := Tryd.underlying117
  a127 := Tryd.isAgg117
  z127 := Tryd.sizeOf117
  v127 := Tryd.zeroValue117
  t143 := Tryd.underlying118
  a143 := Tryd.isAgg118
  z143 := Tryd.sizeOf118
  v143 := Tryd.zeroValue118
  t145 := Tryd.underlying120
  a145 := Tryd.isAgg120
  z145 := Tryd.sizeOf120
  v145 := Tryd.zeroValue120
  t167 := Tryd.underlying96
  a167 := Tryd.isAgg96
  z167 := Tryd.sizeOf96
  v167 := Tryd.zeroValue96
  t168 := Tryd.underlying100
  a168 := Tryd.isAgg100
  z168 := Tryd.sizeOf100
  v168 := Tryd.zeroValue100
  t171 := Tryd.underlying91
  a171 := Tryd.isAgg91
  z171 := Tryd.sizeOf91
  v171 := Tryd.zeroValue91
  t173 := Tryd.underlying94
  a173 := Tryd.isAgg94
  z173 := Tryd.sizeOf94
  v173 := Tryd.zeroValue94
  t175 := Tryd.underlying97
  a175 := Tryd.isAgg97
  z175 := Tryd.sizeOf97
  v175 := Tryd.zeroValue97
  t210 := Tryd.underlying114
  a210 := Tryd.isAgg114
  z210 := Tryd.sizeOf114
  v210 := Tryd.zeroValue114
  t212 := Tryd.underlying105
  a212 := Tryd.isAgg105
  z212 := Tryd.sizeOf105
  v212 := Tryd.zeroValue105
  t213 := Tryd.underlying107
  a213 := Tryd.isAgg107
  z213 := Tryd.sizeOf107
  t232 := Tryd.underlying121
  a232 := Tryd.isAgg121
  z232 := Tryd.sizeOf121
  v232 := Tryd.zeroValue121
  t233 := Tryd.underlying122
  a233 := Tryd.isAgg122
  z233 := Tryd.sizeOf122
  v233 := Tryd.zeroValue122
  g15 := by kernel_rfl
  g16 := by kernel_rfl
  g17 := by kernel_rfl
  g18 := by kernel_rfl
  g19 := by kernel_rfl
  t80 := Tryd.underlying75
  a80 := Tryd.isAgg75
  z80 := Tryd.sizeOf75
  v80 := Tryd.zeroValue75
  i0 := by kernel_rfl
  i2 := by kernel_rfl
  i3 := by kernel_rfl
  i4 := by kernel_rfl
  i5 := by kernel_rfl
  i9 := by kernel_rfl
  i20 := by kernel_rfl
  i21 := by kernel_rfl
  i37 := by kernel_rfl
  i46 := by kernel_rfl
  i51 := by kernel_rfl
  i53 := by kernel_rfl
  i75 := by kernel_rfl
  i80 := by kernel_rfl
  i85 := by kernel_rfl
  i127 := by kernel_rfl
  i143 := by kernel_rfl
  i145 := by kernel_rfl
  i167 := by kernel_rfl
  i168 := by kernel_rfl
  i171 := by kernel_rfl
  i173 := by kernel_rfl
  i175 := by kernel_rfl
  i210 := by kernel_rfl
  i212 := by kernel_rfl
  i232 := by kernel_rfl
  i233 := by kernel_rfl
  m15 := by kernel_rfl
  m16 := by kernel_rfl
  m17 := by kernel_rfl
  m18 := by kernel_rfl
  m19 := by kernel_rfl
  c0 := by kernel_rfl
  c2 := by kernel_rfl
  c3 := by kernel_rfl
  c4 := by kernel_rfl
  c5 := by kernel_rfl
  c9 := by kernel_rfl
  c20 := by kernel_rfl
  c21 := by kernel_rfl
  c37 := by kernel_rfl
  c46 := by kernel_rfl
  c51 := by kernel_rfl
  c53 := by kernel_rfl
  c75 := by kernel_rfl
  c80 := by kernel_rfl
  c85 := by kernel_rfl
  c127 := by kernel_rfl
  c143 := by kernel_rfl
  c145 := by kernel_rfl
  c167 := by kernel_rfl
  c168 := by kernel_rfl
  c171 := by kernel_rfl
  c173 := by kernel_rfl
  c175 := by kernel_rfl
  c210 := by kernel_rfl
  c212 := by kernel_rfl
  c213 := by kernel_rfl
  c232 := by kernel_rfl
  c233 := by kernel_rfl }
def Tryd.lappend_ren : Go.Shelf.Ren := ⟨fun | 288 => 59 | 283 => 64 | 284 => 65 | 285 => 66 | 286 => 67 | 129 => 74 | 317 => 73 | 318 => 75 | 319 => 76 | 320 => 77 | 337 => 83 | 338 => 84 | n => n, fun | 37 => 28 | 53 => 78 | 3 => 3 | 4 => 4 | 9 => 9 | 171 => 91 | 0 => 0 | 173 => 94 | 212 => 105 | 51 => 106 | 5 => 5 | 20 => 20 | 213 => 107 | 46 => 99 | 232 => 121 | 233 => 122 | n => n, fun | 17 => 0 | 18 => 3 | 19 => 4 | n => n⟩
theorem Tryd.lappend : Go.Proofs.LaysM.n288 Tryd.prog Tryd.lappend_ren := {
  mixed := by kernel_rfl
  f129 := Tryd.func74.trans (congrArg some (by kernel_rfl))
  f283 := Tryd.func64.trans (congrArg some (by kernel_rfl))
  f284 := Tryd.func65.trans (congrArg some (by kernel_rfl))
  f285 := Tryd.func66.trans (congrArg some (by kernel_rfl))
  f286 := Tryd.func67.trans (congrArg some (by kernel_rfl))
  f288 := Tryd.func59.trans (congrArg some (by kernel_rfl))
  f317 := Tryd.func73.trans (congrArg some (by kernel_rfl))
  f318 := Tryd.func75.trans (congrArg some (by kernel_rfl))
  f319 := Tryd.func76.trans (congrArg some (by kernel_rfl))
  f320 := Tryd.func77.trans (congrArg some (by kernel_rfl))
  f337 := Tryd.func83.trans (congrArg some (by kernel_rfl))
  f338 := Tryd.func84.trans (congrArg some (by kernel_rfl))
  t0 := Tryd.underlying0
  a0 := Tryd.isAgg0
  z0 := Tryd.sizeOf0
  v0 := Tryd.zeroValue0
  t3 := Tryd.underlying3
  a3 := Tryd.isAgg3
  z3 := Tryd.sizeOf3
  v3 := Tryd.zeroValue3
  t4 := Tryd.underlying4
  a4 := Tryd.isAgg4
  z4 := Tryd.sizeOf4
  v4 := Tryd.zeroValue4
  t5 := Tryd.underlying5
  a5 := Tryd.isAgg5
  z5 := Tryd.sizeOf5
  v5 := Tryd.zeroValue5
  t9 := Tryd.underlying9
  a9 := Tryd.isAgg9
  z9 := Tryd.sizeOf9
  v9 := Tryd.zeroValue9
  t20 := Tryd.underlying20
  a20 := Tryd.isAgg20
  z20 := Tryd.sizeOf20
  v20 := Tryd.zeroValue20
  t37 := Tryd.underlying28
  a37 := Tryd.isAgg28
  z37 := Tryd.sizeOf28
  v37 := Tryd.zeroValue28
  t46 := Tryd.underlying99
  a46 := Tryd.isAgg99
  z46 := Tryd.sizeOf99
  v46 := Tryd.zeroValue99
  t51 := Tryd.underlying106
  a51 := Tryd.isAgg106
  z51 := Tryd.sizeOf106
  v51 := Tryd.zeroValue106
  t53 := Tryd.underlying78
  a53 := Tryd.isAgg78
  z53 := Tryd.sizeOf78
  v53 := Tryd.zeroValue78
  t171 := Tryd.underlying91
  a171 := Tryd.isAgg91
  z171 := Tryd.sizeOf91
  v171 := Tryd.zeroValue91
  t173 := Tryd.underlying94
  a173 := Tryd.isAgg94
  z173 := Tryd.sizeOf94
  v173 := Tryd.zeroValue94
  t212 := Tryd.underlying105
  a212 := Tryd.isAgg105
  z212 := Tryd.sizeOf105
  v212 := Tryd.zeroValue105
  t213 := Tryd.underlying107
  a213 := Tryd.isAgg107
  z213 := Tryd.sizeOf107
  t232 := Tryd.underlying121
  a232 := Tryd.isAgg121
  z232 := Tryd.sizeOf121
  v232 := Tryd.zeroValue121
  t233 := Tryd.underlying122
  a233 := Tryd.isAgg122
  z233 := Tryd.sizeOf122
  v233 := Tryd.zeroValue122
  g17 := by kernel_rfl
  g18 := by kernel_rfl
  g19 := by kernel_rfl
  i0 := by kernel_rfl
  i3 := by kernel_rfl
  i4 := by kernel_rfl
  i5 := by kernel_rfl
  i9 := by kernel_rfl
  i20 := by kernel_rfl
  i37 := by kernel_rfl
  i46 := by kernel_rfl
  i51 := by kernel_rfl
  i53 := by kernel_rfl
  i171 := by kernel_rfl
  i173 := by kernel_rfl
  i212 := by kernel_rfl
  i232 := by kernel_rfl
  i233 := by kernel_rfl
  m17 := by kernel_rfl
  m18 := by kernel_rfl
  m19 := by kernel_rfl }
end Go.Proofs

namespace Go.Proofs.YtimalbkjflfdoaaDoor
open Go.DL
set_option maxRecDepth 100000
set_option maxHeartbeats 4000000
abbrev gB0 : Box := .obj (tabP Tryd.prog)
abbrev gB1 : Box := .obj (errP 1)
abbrev gB2 : Box := .obj (errP 2)
abbrev ghosts : List (Nat × Box) := [(0, .obj (tabP Tryd.prog)), (1, .obj (errP 1)), (2, .obj (errP 2))]
structure Reader where
  rest : List UInt8
  deriving DecidableEq
noncomputable def g_slices_Index_Lbyte_byte_j1 : Option (Int) :=
  some (-1)
noncomputable def g_slices_Index_Lbyte_byte_l2 (s_1 : List UInt8) (v_2 : Int) (v : Nat) : Option ((Nat) ⊕ (Int)) :=
  match v with | v_3 => if (decide (((v_3 : Nat) : Int) < ((s_1.length : Nat) : Int))) = true then (gn s_1 v_3 fun x_6 => if (v_2 == ((x_6.toNat : Nat) : Int)) = true then (up (some ((v_3 : Nat) : Int))) else ckI (((v_3 : Nat) : Int) + 1) <| some (.inl (v_3 + 1))) else up (g_slices_Index_Lbyte_byte_j1)
noncomputable def g_slices_Index_Lbyte_byte (s_1 : List UInt8) (v_2 : Int) : Option (Int) :=
  loopO (g_slices_Index_Lbyte_byte_l2 s_1 v_2) 0
noncomputable def g__codec_reader_value_s_j2 (s_14 : List UInt8) (s_17 : List UInt8) (n_19 : Int) : Option ((Val × Reader) ⊕ Unit) :=
  ckI (n_19) <| if (!((Lib.itoa n_19) == s_14)) = true then (some (.inr ())) else if (decide (n_19 < 0)) = true then (some (.inr ())) else if (decide (n_19 > ((s_17.length : Nat) : Int))) = true then (some (.inr ())) else sb s_17 none (some n_19) fun s_24 => sb s_17 (some n_19) none fun s_26 => some (.inl ((⟨2, 0, s_24, ([] : List Val), ([] : List (List UInt8))⟩ : Val), (⟨s_26⟩ : Reader)))
noncomputable def g__codec_reader_value_s_j3 (s_14 : List UInt8) (s_17 : List UInt8) : Option ((Val × Reader) ⊕ Unit) :=
  some (.inr ())
noncomputable def g__codec_reader_value_s_j6 (depth_2 : Int) (rc : (Reader) → (Int) → Option ((Val × Reader) ⊕ Unit)) (l_36 : List Val) (v_33 : Int) (v_49 : List UInt8) (l_50 : List (List UInt8)) : Option (((List UInt8) × (List Val) × (List (List UInt8))) ⊕ ((Val × Reader) ⊕ Unit)) :=
  ckI (depth_2 + 1) <| bdP (rc (⟨v_49⟩ : Reader) (depth_2 + 1)) (fun r_52 => ck ((l_36.length + ([r_52.1]).length) * 80 ≤ 140737488355328) <| some (.inl (r_52.2.rest, (l_36 ++ [r_52.1]), l_50))) (up (some (.inr ())))
noncomputable def g__codec_reader_value_s_j9 (l_37 : List (List UInt8)) (s_73 : List UInt8) (depth_2 : Int) (rc : (Reader) → (Int) → Option ((Val × Reader) ⊕ Unit)) (l_36 : List Val) (v_33 : Int) (s_75 : List UInt8) : Option (((List UInt8) × (List Val) × (List (List UInt8))) ⊕ ((Val × Reader) ⊕ Unit)) :=
  ck ((l_37.length + ([s_73]).length) * 16 ≤ 140737488355328) <| g__codec_reader_value_s_j6 depth_2 rc l_36 v_33 s_75 (l_37 ++ [s_73])
noncomputable def g__codec_reader_value_s_j7 (s_63 : List UInt8) (s_66 : List UInt8) (l_37 : List (List UInt8)) (depth_2 : Int) (rc : (Reader) → (Int) → Option ((Val × Reader) ⊕ Unit)) (l_36 : List Val) (v_33 : Int) (n_68 : Int) : Option (((List UInt8) × (List Val) × (List (List UInt8))) ⊕ ((Val × Reader) ⊕ Unit)) :=
  ckI (n_68) <| if (!((Lib.itoa n_68) == s_63)) = true then (up (some (.inr ()))) else if (decide (n_68 < 0)) = true then (up (some (.inr ()))) else if (decide (n_68 > ((s_66.length : Nat) : Int))) = true then (up (some (.inr ()))) else sb s_66 none (some n_68) fun s_73 => sb s_66 (some n_68) none fun s_75 => if (decide (((l_37.length : Nat) : Int) > 0)) = true then (ckI (((l_37.length : Nat) : Int) - 1) <| gt l_37 (((l_37.length : Nat) : Int) - 1) fun x_80 => if (!(Op.bytesLess x_80 s_73)) = true then (up (some (.inr ()))) else g__codec_reader_value_s_j9 l_37 s_73 depth_2 rc l_36 v_33 s_75) else g__codec_reader_value_s_j9 l_37 s_73 depth_2 rc l_36 v_33 s_75
noncomputable def g__codec_reader_value_s_j8 (s_63 : List UInt8) (s_66 : List UInt8) (v_33 : Int) (l_37 : List (List UInt8)) (l_36 : List Val) : Option (((List UInt8) × (List Val) × (List (List UInt8))) ⊕ ((Val × Reader) ⊕ Unit)) :=
  up (some (.inr ()))
noncomputable def g__codec_reader_value_s_l5 (v_33 : Int) (depth_2 : Int) (rc : (Reader) → (Int) → Option ((Val × Reader) ⊕ Unit)) (v : (List UInt8) × (List Val) × (List (List UInt8))) : Option (((List UInt8) × (List Val) × (List (List UInt8))) ⊕ ((Val × Reader) ⊕ Unit)) :=
  match v with | (v_35, l_36, l_37) => if (((v_35.length : Nat) : Int) == 0) = true then (up (some (.inr ()))) else gn v_35 0 fun x_42 => if (((x_42.toNat : Nat) : Int) == 101) = true then (sb v_35 (some 1) none fun s_47 => up (some (.inl ((⟨v_33, 0, ([] : List UInt8), l_36, l_37⟩ : Val), (⟨s_47⟩ : Reader))))) else if (v_33 == 4) = true then (bd (g_slices_Index_Lbyte_byte v_35 58) fun r_59 => if (decide (r_59 < 0)) = true then (up (some (.inr ()))) else if (decide (r_59 > 20)) = true then (up (some (.inr ()))) else sb v_35 none (some r_59) fun s_63 => ckI (r_59 + 1) <| sb v_35 (some (r_59 + 1)) none fun s_66 => ck (s_63.length ≤ 140737488355328) <| onP (parseO s_63) (fun n_86 => g__codec_reader_value_s_j7 s_63 s_66 l_37 depth_2 rc l_36 v_33 n_86) (g__codec_reader_value_s_j8 s_63 s_66 v_33 l_37 l_36)) else g__codec_reader_value_s_j6 depth_2 rc l_36 v_33 v_35 l_37
noncomputable def g__codec_reader_value_s_j4 (depth_2 : Int) (rc : (Reader) → (Int) → Option ((Val × Reader) ⊕ Unit)) (s_31 : List UInt8) (v_33 : Int) : Option ((Val × Reader) ⊕ Unit) :=
  if (depth_2 == 16) = true then (some (.inr ())) else loopO (g__codec_reader_value_s_l5 v_33 depth_2 rc) (s_31, ([] : List Val), ([] : List (List UInt8)))
noncomputable def g__codec_reader_value_s_j10 (s_93 : List UInt8) (s_96 : List UInt8) (n_98 : Int) : Option ((Val × Reader) ⊕ Unit) :=
  ckI (n_98) <| if (!((Lib.itoa n_98) == s_93)) = true then (some (.inr ())) else some (.inl ((⟨1, n_98, ([] : List UInt8), ([] : List Val), ([] : List (List UInt8))⟩ : Val), (⟨s_96⟩ : Reader)))
noncomputable def g__codec_reader_value_s_j11 (s_93 : List UInt8) (s_96 : List UInt8) : Option ((Val × Reader) ⊕ Unit) :=
  some (.inr ())
noncomputable def g__codec_reader_value_s_j1 (r_1 : Reader) (x_4 : UInt8) (depth_2 : Int) (rc : (Reader) → (Int) → Option ((Val × Reader) ⊕ Unit)) (v_8 : Bool) : Option ((Val × Reader) ⊕ Unit) :=
  if (v_8) = true then (bd (g_slices_Index_Lbyte_byte r_1.rest 58) fun r_10 => if (decide (r_10 < 0)) = true then (some (.inr ())) else if (decide (r_10 > 20)) = true then (some (.inr ())) else sb r_1.rest none (some r_10) fun s_14 => ckI (r_10 + 1) <| sb r_1.rest (some (r_10 + 1)) none fun s_17 => ck (s_14.length ≤ 140737488355328) <| onP (parseO s_14) (fun n_29 => g__codec_reader_value_s_j2 s_14 s_17 n_29) (g__codec_reader_value_s_j3 s_14 s_17)) else sb r_1.rest (some 1) none fun s_31 => if (((x_4.toNat : Nat) : Int) == 105) = true then (bd (g_slices_Index_Lbyte_byte s_31 101) fun r_89 => if (decide (r_89 < 0)) = true then (some (.inr ())) else if (decide (r_89 > 20)) = true then (some (.inr ())) else sb s_31 none (some r_89) fun s_93 => ckI (r_89 + 1) <| sb s_31 (some (r_89 + 1)) none fun s_96 => ck (s_93.length ≤ 140737488355328) <| onP (parseO s_93) (fun n_102 => g__codec_reader_value_s_j10 s_93 s_96 n_102) (g__codec_reader_value_s_j11 s_93 s_96)) else if (((x_4.toNat : Nat) : Int) == 108) = true then (g__codec_reader_value_s_j4 depth_2 rc s_31 3) else if (((x_4.toNat : Nat) : Int) == 100) = true then (g__codec_reader_value_s_j4 depth_2 rc s_31 4) else some (.inr ())
noncomputable def g__codec_reader_value_s (rc : (Reader) → (Int) → Option ((Val × Reader) ⊕ Unit)) (r_1 : Reader) (depth_2 : Int) : Option ((Val × Reader) ⊕ Unit) :=
  if (((r_1.rest.length : Nat) : Int) == 0) = true then (some (.inr ())) else gn r_1.rest 0 fun x_4 => if (decide (((x_4.toNat : Nat) : Int) ≥ 48)) = true then (g__codec_reader_value_s_j1 r_1 x_4 depth_2 rc (decide (((x_4.toNat : Nat) : Int) ≤ 57))) else g__codec_reader_value_s_j1 r_1 x_4 depth_2 rc false
noncomputable def g__codec_reader_value : Nat → (Reader) → (Int) → Option ((Val × Reader) ⊕ Unit)
  | 0 => fun _ _ => none
  | fu + 1 => g__codec_reader_value_s (g__codec_reader_value fu)
end Go.Proofs.YtimalbkjflfdoaaDoor

namespace Go.Proofs.YtimalbkjflfdoaaDoor
open Go.DL
theorem Val.mem_size {v : Val} {l : List Val} (h : v ∈ l) : SizeOf.sizeOf v < SizeOf.sizeOf l := List.sizeOf_lt_of_mem h
theorem Val.ind {p : Val → Prop} (h : ∀ k n s l ks, (∀ x ∈ l, p x) → p (.mk k n s l ks)) (v : Val) : p v := by
  have key : ∀ m (v : Val), SizeOf.sizeOf v ≤ m → p v := by
    intro m
    induction m with
    | zero => intro v hv; cases v; simp at hv
    | succ m ih =>
      intro v hv
      cases v with
      | mk k n s l ks =>
        refine h k n s l ks fun x hx => ih x ?_
        have := Val.mem_size hx
        simp at hv
        omega
  exact key _ v (Nat.le_refl _)
def zV : Val := ⟨0, 0, [], [], []⟩
def incr : List (List UInt8) → Bool
  | [] => true
  | [_] => true
  | a :: b :: r => Op.bytesLess a b && incr (b :: r)
mutual
def wf : Val → Bool
  | .mk k n s l ks => (k == 1 && s.isEmpty && l.isEmpty && ks.isEmpty) || (k == 2 && n == 0 && l.isEmpty && ks.isEmpty) || (k == 3 && n == 0 && s.isEmpty && ks.isEmpty && wfL l) || (k == 4 && n == 0 && s.isEmpty && ks.length == l.length && incr ks && wfL l)
def wfL : List Val → Bool
  | [] => true
  | v :: l => wf v && wfL l
end
mutual
def dep : Val → Nat
  | .mk k _ _ l _ => if k = 1 ∨ k = 2 then 0 else depL l + 1
def depL : List Val → Nat
  | [] => 0
  | v :: l => max (dep v) (depL l)
end
mutual
def hgt : Val → Nat
  | .mk _ _ _ l _ => hgtL l + 1
def hgtL : List Val → Nat
  | [] => 0
  | v :: l => max (hgt v) (hgtL l)
end
mutual
def cnt : Val → Nat
  | .mk _ _ s l ks => 1 + s.length / 200 + ks.length + (ks.map fun k => k.length / 50).sum + cntL l
def cntL : List Val → Nat
  | [] => 0
  | v :: l => cnt v + cntL l
end
def i64 (n : Int) : Prop := -9223372036854775808 ≤ n ∧ n ≤ 9223372036854775807
mutual
def rng : Val → Prop
  | .mk k n s l ks => i64 k ∧ i64 n ∧ s.length ≤ 140737488355328 ∧ l.length ≤ 140737488355328 ∧ ks.length ≤ 140737488355328 ∧ (∀ k ∈ ks, k.length ≤ 140737488355328) ∧ rngL l
def rngL : List Val → Prop
  | [] => True
  | v :: l => rng v ∧ rngL l
end
def txt (s : List UInt8) : List UInt8 := Lib.decDigits s.length ++ 58 :: s
mutual
def enc : Val → List UInt8
  | .mk k n s l ks => if k = 1 then 105 :: (Lib.itoa n ++ [101]) else if k = 2 then txt s else if k = 4 then 100 :: (encD ks l ++ [101]) else 108 :: (encL l ++ [101])
def encL : List Val → List UInt8
  | [] => []
  | v :: l => enc v ++ encL l
def encD : List (List UInt8) → List Val → List UInt8
  | _, [] => []
  | ks, v :: l => txt (ks.headD []) ++ (enc v ++ encD ks.tail l)
end
theorem wfL_iff {l : List Val} : wfL l = true ↔ ∀ x ∈ l, wf x = true := by
  induction l with
  | nil => simp [wfL]
  | cons v l ih => simp [wfL, ih]
theorem depL_le {l : List Val} {n : Nat} : depL l ≤ n ↔ ∀ x ∈ l, dep x ≤ n := by
  induction l with
  | nil => simp [depL]
  | cons v l ih => simp only [depL, Nat.max_le, ih, List.mem_cons, forall_eq_or_imp]
theorem hgtL_le {l : List Val} {n : Nat} : hgtL l ≤ n ↔ ∀ x ∈ l, hgt x ≤ n := by
  induction l with
  | nil => simp [hgtL]
  | cons v l ih => simp only [hgtL, Nat.max_le, ih, List.mem_cons, forall_eq_or_imp]
theorem rngL_iff {l : List Val} : rngL l ↔ ∀ x ∈ l, rng x := by
  induction l with
  | nil => simp [rngL]
  | cons v l ih => simp [rngL, ih]
theorem cntL_append (a b : List Val) : cntL (a ++ b) = cntL a + cntL b := by
  induction a with
  | nil => simp [cntL]
  | cons v l ih => simp only [List.cons_append, cntL, ih]; omega
theorem encL_append (a b : List Val) : encL (a ++ b) = encL a ++ encL b := by
  induction a with
  | nil => rfl
  | cons v l ih => simp only [List.cons_append, encL, ih, List.append_assoc]
theorem depL_append (a b : List Val) : depL (a ++ b) = max (depL a) (depL b) := by
  induction a with
  | nil => simp [depL]
  | cons v l ih => simp only [List.cons_append, depL, ih]; omega
theorem encD_append : ∀ (ks : List (List UInt8)) (a b : List Val), encD ks (a ++ b) = encD ks a ++ encD (ks.drop a.length) b
  | ks, [], b => by simp [encD]
  | ks, v :: a, b => by
    simp only [List.cons_append, encD, encD_append ks.tail a b, List.append_assoc, List.length_cons]
    congr 3
    cases ks <;> simp
theorem encD_keys : ∀ (ks ks' : List (List UInt8)) (l : List Val), l.length ≤ ks.length → encD (ks ++ ks') l = encD ks l
  | _, _, [], _ => by simp [encD]
  | [], _, v :: l, h => by simp at h
  | k :: ks, ks', v :: l, h => by
    simp only [List.cons_append, encD, List.headD_cons, List.tail_cons]
    rw [encD_keys ks ks' l (by simpa using h)]
theorem nDigits_le {u : Nat} (h : u < 10 ^ 20) : Lib.nDigits u ≤ 20 := by
  have key : ∀ k u, u < 10 ^ (k + 1) → Lib.nDigits u ≤ k + 1 := by
    intro k
    induction k with
    | zero => intro u h; rw [Lib.nDigits_small (by simpa using h)]; omega
    | succ k ih =>
      intro u h
      by_cases hs : u < 10
      · rw [Lib.nDigits_small hs]; omega
      · rw [Lib.nDigits_big hs]
        have := ih (u / 10) (by rw [Nat.pow_succ] at h; omega)
        omega
  exact key 19 u h
theorem decDigits_len {u : Nat} (h : u < 18446744073709551616) : (Lib.decDigits u).length ≤ 20 := by
  rw [Lib.decDigits_length]; exact nDigits_le (by omega)
theorem txt_len {s : List UInt8} (h : s.length ≤ 140737488355328) : (txt s).length ≤ s.length + 21 := by
  have := decDigits_len (u := s.length) (by omega)
  simp only [txt, List.length_append, List.length_cons]; omega
theorem encD_len : ∀ (ks : List (List UInt8)) (l : List Val), (∀ k ∈ ks, k.length ≤ 140737488355328) → (∀ x ∈ l, (enc x).length ≤ 300 * cnt x) → l.length ≤ ks.length → (encD ks l).length ≤ 300 * (ks.length + (ks.map fun k => k.length / 50).sum + cntL l)
  | _, [], _, _, _ => by simp [encD]
  | [], v :: l, _, _, h => by simp at h
  | k :: ks, v :: l, h1, h2, h => by
    have h3 := encD_len ks l (fun q hq => h1 q (List.mem_cons_of_mem _ hq)) (fun x hx => h2 x (List.mem_cons_of_mem _ hx)) (by simpa using h)
    have h4 := h2 v List.mem_cons_self
    have h5 := txt_len (h1 k List.mem_cons_self)
    simp only [encD, List.headD_cons, List.tail_cons, List.length_append, List.length_cons, List.map_cons, List.sum_cons, cntL]
    omega
theorem encL_len : ∀ (l : List Val), (∀ x ∈ l, (enc x).length ≤ 300 * cnt x) → (encL l).length ≤ 300 * cntL l
  | [], _ => by simp [encL]
  | v :: l, h2 => by
    have h3 := encL_len l (fun x hx => h2 x (List.mem_cons_of_mem _ hx))
    have h4 := h2 v List.mem_cons_self
    simp only [encL, List.length_append, cntL]
    omega
theorem enc_len {v : Val} (hr : rng v) (hw : wf v = true) : (enc v).length ≤ 300 * cnt v := by
  induction v using Val.ind with
  | h k n s l ks ih =>
    simp only [rng] at hr
    obtain ⟨r1, r2, r3, r4, r5, r6, r7⟩ := hr
    rw [rngL_iff] at r7
    have hl : wfL l = true → ∀ x ∈ l, (enc x).length ≤ 300 * cnt x := fun h x hx => ih x hx (r7 x hx) (wfL_iff.1 h x hx)
    simp only [wf, Bool.or_eq_true, Bool.and_eq_true, beq_iff_eq] at hw
    have hi := Lib.itoa_length_le n r2.1 r2.2
    have ht := txt_len r3
    rcases hw with ((⟨⟨⟨rfl, _⟩, _⟩, _⟩ | ⟨⟨⟨rfl, _⟩, _⟩, _⟩) | ⟨⟨⟨⟨rfl, _⟩, _⟩, _⟩, hw⟩) | ⟨⟨⟨⟨⟨rfl, _⟩, _⟩, hlen⟩, _⟩, hw⟩
    · simp only [enc, if_true, List.length_cons, List.length_append, List.length_nil, cnt]; omega
    · simp only [enc, show ¬ (2 : Int) = 1 by decide, if_false, if_true, cnt]
      omega
    · have := encL_len l (hl hw)
      simp only [enc, show ¬ (3 : Int) = 1 by decide, show ¬ (3 : Int) = 2 by decide, show ¬ (3 : Int) = 4 by decide, if_false, List.length_cons, List.length_append, List.length_nil, cnt]
      omega
    · have := encD_len ks l r6 (hl hw) (by omega)
      simp only [enc, show ¬ (4 : Int) = 1 by decide, show ¬ (4 : Int) = 2 by decide, if_false, if_true, List.length_cons, List.length_append, List.length_nil, cnt]
      omega
end Go.Proofs.YtimalbkjflfdoaaDoor

set_option maxRecDepth 100000
namespace Go.Proofs.YtimalbkjflfdoaaDoor
open Go.DL Go.RowKit Go.ChangeShapes Go.WideShapes
theorem Tryd.own : ownKnob Tryd.prog.godebug = none := by kernel_rfl
theorem Tryd.laidOut : laidOutB Tryd.prog = true := by kernel_rfl
theorem und4 : Tryd.prog.underlying 4 = some .bool := by kernel_rfl
theorem und5 : Tryd.prog.underlying 5 = some (.int .u8) := by kernel_rfl
theorem und28 : Tryd.prog.underlying 28 = some (.slice 5) := by kernel_rfl
theorem reach47 : reachBytes ≤ 140737488355328 := by decide
theorem d_5 : Dec Tryd.prog 5 (fun b : UInt8 => [elB b]) (fun _ => True) := by
  intro H enc w fuel cs d ps hd
  obtain ⟨n, rfl, _, hwf⟩ := DataW.trod_int und5 hd
  have e1 : IntKind.u8.min = 0 := rfl
  have e2 : IntKind.u8.max = 255 := rfl
  simp [Lit.wf, e1, e2] at hwf
  refine ⟨UInt8.ofNat n.toNat, rfl, one_get ?_, fun _ => trivial⟩
  have : n = (((UInt8.ofNat n.toNat).toNat : Nat) : Int) := by rw [UInt8.toNat_ofNat']; omega
  unfold elB
  rw [← this]
  exact .int _ _
theorem d_28 : Dec Tryd.prog 28 (fun l : List UInt8 => [.sl 1 (l.map elB)]) (fun l => l.length ≤ 140737488355328) :=
  Dec.map (Dec.slice und28 1 1 (by kernel_rfl) (by kernel_rfl) (by decide) d_5 elB (fun _ => rfl) (fun _ => rfl)) id _ _ (fun _ => rfl) (fun l h => by have := h.1; have := reach47; simp only [id]; omega)
theorem pl_bytes (l : List UInt8) : PlD (.sl 1 (l.map elB)) := by
  refine .sl _ _ fun e he c hc => ?_
  obtain ⟨x, hx, rfl⟩ := List.mem_map.1 he
  simp [elB, D.cells] at hc
  subst hc; exact .u8 _
theorem gTab : Tryd.prog.globalNamed "internal/strconv.uint64pow10" = some 0 := by kernel_rfl
theorem gTabType : (Tryd.prog.globals[0]?).map (·.type) = some 105 := by kernel_rfl
theorem gES : Tryd.prog.globalNamed "strconv.ErrSyntax" = some 1 := by kernel_rfl
theorem gESType : (Tryd.prog.globals[1]?).map (·.type) = some 84 := by kernel_rfl
theorem gER : Tryd.prog.globalNamed "strconv.ErrRange" = some 2 := by kernel_rfl
theorem gERType : (Tryd.prog.globals[2]?).map (·.type) = some 84 := by kernel_rfl
theorem star : "*" ++ "errors.errorString" = "*errors.errorString" := by decide
theorem row118 (u : TypeId) (h : Tryd.prog.typeName? 3 u = some "*errors.errorString") : u = 118 :=
  typeName_ptr_named (nm := "errors.errorString") (by rw [star]; kernel_rfl) (by kernel_rfl) (by decide) u (by rw [star]; exact h)
def laid5 : List (String × DataW Unit) := [("math/bits.deBruijn32tab", Rows.laid_math_bits_deBruijn32tab), ("math/bits.deBruijn64tab", Rows.laid_math_bits_deBruijn64tab), ("internal/strconv.uint64pow10", Rows.laid_internal_strconv_uint64pow10), ("strconv.ErrRange", Rows.laid_strconv_ErrRange), ("strconv.ErrSyntax", Rows.laid_strconv_ErrSyntax)]
theorem met {W : World} (h : laidMetH Tryd.prog laid5 W) : Lib.TabIs Tryd.prog W "internal/strconv.uint64pow10" .u64 Lib.pow10Tab ∧ (∃ t u, W.var? Tryd.prog "strconv.ErrSyntax" = some #[.iface t u]) ∧ ∃ t u, W.var? Tryd.prog "strconv.ErrRange" = some #[.iface t u] := by
  have h0 : laidMet Tryd.prog laid5 W := h
  have h1 : laidMet Tryd.prog (("internal/strconv.uint64pow10", Lib.tabData .u64 Lib.pow10Tab) :: _) W := h0.tail.tail
  refine ⟨Lib.tabIs_of_head gTab gTabType Tryd.underlying105 Tryd.underlying78 (by kernel_rfl) (by kernel_rfl) h1, ?_, ?_⟩
  · obtain ⟨a0, s0, hv0, -, -, -⟩ := laid_sentinel h1.tail.tail gES gESType Tryd.underlying84 row118 Tryd.underlying118 Tryd.underlying120 rfl rfl Tryd.underlying9 (by kernel_rfl) (by kernel_rfl)
    exact ⟨_, _, hv0⟩
  · obtain ⟨a0, s0, hv0, -, -, -⟩ := laid_sentinel h1.tail gER gERType Tryd.underlying84 row118 Tryd.underlying118 Tryd.underlying120 rfl rfl Tryd.underlying9 (by kernel_rfl) (by kernel_rfl)
    exact ⟨_, _, hv0⟩
end Go.Proofs.YtimalbkjflfdoaaDoor

set_option maxRecDepth 100000
namespace Go.Proofs.YtimalbkjflfdoaaDoor
open Go.DL Go.RowKit Go.ChangeShapes Go.WideShapes
def pinV : Option Obj → Value
  | some (.cells arr T fr) => .tuple #[.agg arr, .int .i64 ((T : Nat) : Int), .int .i64 ((fr.1 : Nat) : Int), .int .i64 ((fr.2 : Nat) : Int)]
  | _ => undef
def mkM (W : World) : BMap := ⟨id, fun i => pinV W.heap[i]?, fun _ => 0⟩
theorem var_obj {P : Program} {W : World} {n : String} {g : Nat} {cs : Array Value} (hg : P.globalNamed n = some g) (h : W.var? P n = some cs) : ∃ T fr, W.heap[g]? = some (.cells cs T fr) := by
  simp only [World.var?, hg, Option.bind_some] at h
  split at h
  · rename_i c t fr hb
    cases h
    exact ⟨t, fr, hb⟩
  · cases h
theorem pin_of {cs : Array Value} {T : Nat} {fr : Nat × Nat} : pinO (pinV (some (.cells cs T fr))) (.cells cs T fr) := ⟨cs, T, fr.1, fr.2, rfl, rfl⟩
theorem boxes_start {W : World} (h : laidMetH Tryd.prog laid5 W) : Boxes (envOf W (fun _ => False) 3 (mkM W) ghosts) (mkM W) W ghosts := by
  obtain ⟨h0, ⟨t1, u1, h1⟩, t2, u2, h2⟩ := met h
  obtain ⟨T0, fr0, o0⟩ := var_obj gTab h0
  obtain ⟨T1, fr1, o1⟩ := var_obj gES h1
  obtain ⟨T2, fr2, o2⟩ := var_obj gER h2
  have s0 : (0 : Nat) < W.heap.size := by
    rcases Nat.lt_or_ge 0 W.heap.size with h | h
    · exact h
    · rw [Array.getElem?_eq_none h] at o0; cases o0
  have s1 : (1 : Nat) < W.heap.size := by
    rcases Nat.lt_or_ge 1 W.heap.size with h | h
    · exact h
    · rw [Array.getElem?_eq_none h] at o1; cases o1
  have s2 : (2 : Nat) < W.heap.size := by
    rcases Nat.lt_or_ge 2 W.heap.size with h | h
    · exact h
    · rw [Array.getElem?_eq_none h] at o2; cases o2
  refine Boxes.start (fun id b hb => ?_) (by decide) (by simp [boxBlk, mkM]) (fun p hp k hk => ?_)
  · simp only [ghosts, List.mem_cons, List.not_mem_nil, or_false, Prod.mk.injEq] at hb
    rcases hb with ⟨rfl, rfl⟩ | ⟨rfl, rfl⟩ | ⟨rfl, rfl⟩
    · refine ⟨_, o0, rfl, ?_, fun w hw => ?_⟩
      · show pinO (pinV W.heap[0]?) _
        rw [o0]; exact pin_of
      · unfold Lib.TabIs
        simp only [World.var?, gTab, Option.bind_some]
        rw [show w.heap[0]? = _ from hw]
    · refine ⟨_, o1, rfl, t1, u1, ?_, fun w hw => ?_⟩
      · show pinO (pinV W.heap[1]?) _
        rw [o1]; exact pin_of
      · have hv : w.var? Tryd.prog "strconv.ErrSyntax" = some #[.iface t1 u1] := by
          simp only [World.var?, gES, Option.bind_some]
          rw [show w.heap[1]? = _ from hw]
        have := World.var?_cell gES hv 0
        simpa using this
    · refine ⟨_, o2, rfl, t2, u2, ?_, fun w hw => ?_⟩
      · show pinO (pinV W.heap[2]?) _
        rw [o2]; exact pin_of
      · have hv : w.var? Tryd.prog "strconv.ErrRange" = some #[.iface t2 u2] := by
          simp only [World.var?, gER, Option.bind_some]
          rw [show w.heap[2]? = _ from hw]
        have := World.var?_cell gER hv 0
        simpa using this
  · simp only [ghosts, List.mem_cons, List.not_mem_nil, or_false] at hp
    rcases hp with rfl | rfl | rfl <;> simp [boxBlk, mkM] at hk <;> omega
theorem ghost_odd {W : World} (h : laidMetH Tryd.prog laid5 W) : ∀ b off v, Av (fun _ => False) (mkM W) ghosts b → W.cell? ⟨b, off, none⟩ = some v → odd v := by
  obtain ⟨h0, ⟨t1, u1, h1⟩, t2, u2, h2⟩ := met h
  rintro b off v (hb | ⟨p, hp, hk⟩) hc
  · exact hb.elim
  simp only [ghosts, List.mem_cons, List.not_mem_nil, or_false] at hp
  rcases hp with rfl | rfl | rfl <;> simp [boxBlk, mkM] at hk <;> subst hk
  · rw [World.var?_cell gTab h0 off] at hc
    obtain ⟨z, _, hz⟩ := List.mem_map.1 (List.mem_of_getElem? (show (Lib.pow10Tab.map fun z => Value.int .u64 z)[off]? = some v by simpa using hc))
    exact .inl ⟨z, hz.symm⟩
  · rw [World.var?_cell gES h1 off] at hc
    have := List.mem_of_getElem? (show [Value.iface t1 u1][off]? = some v by simpa using hc)
    exact .inr ⟨t1, u1, by simpa using this⟩
  · rw [World.var?_cell gER h2 off] at hc
    have := List.mem_of_getElem? (show [Value.iface t2 u2][off]? = some v by simpa using hc)
    exact .inr ⟨t2, u2, by simpa using this⟩
theorem ghost_pin : ∀ p ∈ ghosts, p.1 < 3 ∧ ∃ q, p.2 = .obj q ∧ ∀ b v o, q b v o → pinO v o := by
  intro p hp
  simp only [ghosts, List.mem_cons, List.not_mem_nil, or_false] at hp
  rcases hp with rfl | rfl | rfl
  · exact ⟨by omega, _, rfl, fun b v o h => h.1⟩
  · exact ⟨by omega, _, rfl, fun b v o h => by obtain ⟨_, _, h, _⟩ := h; exact h⟩
  · exact ⟨by omega, _, rfl, fun b v o h => by obtain ⟨_, _, h, _⟩ := h; exact h⟩
abbrev synS : ByteArray := { data := #[105, 110, 118, 97, 108, 105, 100, 32, 115, 121, 110, 116, 97, 120] }
abbrev rngS : ByteArray := { data := #[118, 97, 108, 117, 101, 32, 111, 117, 116, 32, 111, 102, 32, 114, 97, 110, 103, 101] }
noncomputable def low : Nat := (World.holding Tryd.prog default ⟨#[], #[], []⟩).heap.size
def litsOf : DataW Unit → Array Value
  | .agg l => (l.map fun d => match d with | .lit (.int k n) => Value.int k n | _ => undef).toArray
  | _ => #[]
noncomputable def lay (g : Nat) (cs : Array Value) (h : Array Obj) : Array Obj := h.modify g fun | .cells _ t frozen => .cells cs t frozen | o => o
noncomputable def laidWorld (os : Os) : World :=
  let w0 := World.holding Tryd.prog os ⟨#[.cells #[.string synS] 120, .cells #[.string rngS] 120], #[], []⟩
  { w0 with heap := lay 0 (litsOf Rows.laid_internal_strconv_uint64pow10) (lay 1 #[.iface 118 (.pointer (some ⟨low, 0, none⟩))] (lay 2 #[.iface 118 (.pointer (some ⟨low + 1, 0, none⟩))] (lay 3 (litsOf Rows.laid_math_bits_deBruijn32tab) (lay 4 (litsOf Rows.laid_math_bits_deBruijn64tab) w0.heap)))) }
theorem laid_met (os : Os) (args : Array Value) : laidMet Tryd.prog laid5 ((laidWorld os).forCall (fun _ _ => 0) ⟨#[], args, []⟩).memory :=
  laidMet_of_run' 8 (by kernel_rfl) (by kernel_rfl)
end Go.Proofs.YtimalbkjflfdoaaDoor

namespace Go.Proofs.YtimalbkjflfdoaaDoor
open Go.DL
set_option maxRecDepth 100000
set_option maxHeartbeats 4000000
theorem g_codec_empty_ret {v_1 : Val} {r : Bool} (h : g_codec_empty v_1 = some r) : Ret Tryd.prog 47 [(ndcVal v_1)] (B (r)) := by
  refine Ret.of_T Tryd.func47 (by kernel_rfl) rfl ?_
  refine T_turn [] [0] [] (mk 68 [(0, (.agg (qVal v_1)))] []) (by kernel_rfl) ?_
  refine T_reg [] [1] [] (mk 68 [(1, (rf 1 0))] [(1, (.var (qVal v_1)))]) _ (by kernel_rfl) (z4 zt) ?_
  rcases Bool.eq_false_or_eq_true (v_1.s == ([] : List UInt8)) with b2 | b2
  replace h := ite_t b2 h
  rcases Bool.eq_false_or_eq_true (((v_1.l.length : Nat) : Int) == 0) with b3 | b3
  replace h := ite_t b3 h
  rcases Bool.eq_false_or_eq_true (v_1.n == 0) with b4 | b4
  replace h := ite_t b4 h
  rcases Bool.eq_false_or_eq_true (v_1.k == 0) with b5 | b5
  replace h := ite_t b5 h
  refine T_reg (hl 65 [(6, (zd (I ((v_1.l.length : Nat) : Int)))), (8, (zd (B true))), (12, (zd (I ((v_1.ks.length : Nat) : Int)))), (14, (zd (B true))), (21, (zd (I ((v_1.l.length : Nat) : Int)))), (23, (zd (B true))), (27, (zd (I ((v_1.ks.length : Nat) : Int)))), (29, (zd (B true))), (37, (zd (B true))), (41, (zd (I ((v_1.ks.length : Nat) : Int)))), (43, (zd (B true))), (51, (zd (B true))), (55, (zd (I ((v_1.ks.length : Nat) : Int)))), (58, (zd (I ((v_1.l.length : Nat) : Int)))), (60, (zd (B true))), (64, (zd (I 0)))]) [2] [1] (mk 68 [(2, (db false))] []) _ (by kernel_rfl) (z8 (zc (gd_tt b2) (z1 (zc (gd_tt b2) (z1 (zc (gd_tt b2) (zc (len_s encVal v_1.l) (zc (gd_tt b2) (z2 (zc b2 (z2 (zc (gd_tt b3) (z1 (zc (gd_tt b3) (z1 (zc (gd_tt b3) (zc (len_s elStr v_1.ks) (zc (gd_tt b3) (z2 (zc b3 (z8 (zc (gd_tt b4) (z1 (zc (gd_tt b4) (z1 (zc (gd_tt b4) (zc (len_s encVal v_1.l) (zc (gd_tt b4) (z2 (zc b4 (z2 (zc (gd_tt b3) (z1 (zc (gd_tt b3) (z1 (zc (gd_tt b3) (zc (len_s elStr v_1.ks) (zc (gd_tt b3) (z2 (zc b3 (z8 (zc (gd_tt b4) (z1 (zc (gd_tt b4) (z1 (zc (gd_tt b4) (z2 (zc b4 (z2 (zc (gd_tt b2) (z1 (zc (gd_tt b2) (z1 (zc (gd_tt b2) (zc (len_s elStr v_1.ks) (zc (gd_tt b2) (z2 (zc b2 (z8 (zc (gd_tt b4) (z1 (zc (gd_tt b4) (z1 (zc (gd_tt b4) (z2 (zc b4 (z2 (zc (gd_tt b2) (z1 (zc (gd_tt b2) (z1 (zc (gd_tt b2) (zc (len_s elStr v_1.ks) (zc (gd_tt b2) (z1 (zc (gd_tt b2) (z1 (zc (gd_tt b2) (zc (len_s encVal v_1.l) (zc (gd_tt b2) (z2 (zc b2 (z7 (zc (eq_of_beq b5) (z2 zt))))))))))))))))))))))))))))))))))))))))))))))))))))))))))))))))))))))))))))))))))))) ?_
  refine T_ret ?_
  obtain rfl := some_inv h
  exact ret_here [(db false)] (by kernel_rfl) (.inl rfl)
  replace h := ite_f b5 h
  rcases Bool.eq_false_or_eq_true (v_1.k == 1) with b6 | b6
  replace h := ite_t b6 h
  refine T_reg (hl 65 [(6, (zd (I ((v_1.l.length : Nat) : Int)))), (8, (zd (B true))), (12, (zd (I ((v_1.ks.length : Nat) : Int)))), (14, (zd (B true))), (21, (zd (I ((v_1.l.length : Nat) : Int)))), (23, (zd (B true))), (27, (zd (I ((v_1.ks.length : Nat) : Int)))), (29, (zd (B true))), (37, (zd (B true))), (41, (zd (I ((v_1.ks.length : Nat) : Int)))), (43, (zd (B true))), (51, (zd (B true))), (55, (zd (I ((v_1.ks.length : Nat) : Int)))), (58, (zd (I ((v_1.l.length : Nat) : Int)))), (60, (zd (B true))), (64, (zd (I 1)))]) [2] [1] (mk 68 [(2, (db (((v_1.ks.length : Nat) : Int) == 0)))] []) _ (by kernel_rfl) (z8 (zc (gd_tt b2) (z1 (zc (gd_tt b2) (z1 (zc (gd_tt b2) (zc (len_s encVal v_1.l) (zc (gd_tt b2) (z2 (zc b2 (z2 (zc (gd_tt b3) (z1 (zc (gd_tt b3) (z1 (zc (gd_tt b3) (zc (len_s elStr v_1.ks) (zc (gd_tt b3) (z2 (zc b3 (z8 (zc (gd_tt b4) (z1 (zc (gd_tt b4) (z1 (zc (gd_tt b4) (zc (len_s encVal v_1.l) (zc (gd_tt b4) (z2 (zc b4 (z2 (zc (gd_tt b3) (z1 (zc (gd_tt b3) (z1 (zc (gd_tt b3) (zc (len_s elStr v_1.ks) (zc (gd_tt b3) (z2 (zc b3 (z8 (zc (gd_tt b4) (z1 (zc (gd_tt b4) (z1 (zc (gd_tt b4) (z2 (zc b4 (z2 (zc (gd_tt b2) (z1 (zc (gd_tt b2) (z1 (zc (gd_tt b2) (zc (len_s elStr v_1.ks) (zc (gd_tt b2) (z2 (zc b2 (z8 (zc (gd_tt b4) (z1 (zc (gd_tt b4) (z1 (zc (gd_tt b4) (z2 (zc b4 (z2 (zc (gd_tt b2) (z1 (zc (gd_tt b2) (z1 (zc (gd_tt b2) (zc (len_s elStr v_1.ks) (zc (gd_tt b2) (z1 (zc (gd_tt b2) (z1 (zc (gd_tt b2) (zc (len_s encVal v_1.l) (zc (gd_tt b2) (z2 (zc b2 (z7 (zc (eq_of_beq b6) (z2 zt))))))))))))))))))))))))))))))))))))))))))))))))))))))))))))))))))))))))))))))))))))) ?_
  refine T_ret ?_
  obtain rfl := some_inv h
  exact ret_here [(db (((v_1.ks.length : Nat) : Int) == 0))] (by kernel_rfl) (.inl rfl)
  replace h := ite_f b6 h
  rcases Bool.eq_false_or_eq_true (v_1.k == 2) with b7 | b7
  replace h := ite_t b7 h
  refine T_reg (hl 65 [(6, (zd (I ((v_1.l.length : Nat) : Int)))), (8, (zd (B true))), (12, (zd (I ((v_1.ks.length : Nat) : Int)))), (14, (zd (B true))), (21, (zd (I ((v_1.l.length : Nat) : Int)))), (23, (zd (B true))), (27, (zd (I ((v_1.ks.length : Nat) : Int)))), (29, (zd (B true))), (37, (zd (B true))), (41, (zd (I ((v_1.ks.length : Nat) : Int)))), (43, (zd (B true))), (51, (zd (B true))), (55, (zd (I ((v_1.ks.length : Nat) : Int)))), (58, (zd (I ((v_1.l.length : Nat) : Int)))), (60, (zd (B true))), (64, (zd (I 2)))]) [2] [1] (mk 68 [(2, (db (((v_1.ks.length : Nat) : Int) == 0)))] []) _ (by kernel_rfl) (z8 (zc (gd_tt b2) (z1 (zc (gd_tt b2) (z1 (zc (gd_tt b2) (zc (len_s encVal v_1.l) (zc (gd_tt b2) (z2 (zc b2 (z2 (zc (gd_tt b3) (z1 (zc (gd_tt b3) (z1 (zc (gd_tt b3) (zc (len_s elStr v_1.ks) (zc (gd_tt b3) (z2 (zc b3 (z8 (zc (gd_tt b4) (z1 (zc (gd_tt b4) (z1 (zc (gd_tt b4) (zc (len_s encVal v_1.l) (zc (gd_tt b4) (z2 (zc b4 (z2 (zc (gd_tt b3) (z1 (zc (gd_tt b3) (z1 (zc (gd_tt b3) (zc (len_s elStr v_1.ks) (zc (gd_tt b3) (z2 (zc b3 (z8 (zc (gd_tt b4) (z1 (zc (gd_tt b4) (z1 (zc (gd_tt b4) (z2 (zc b4 (z2 (zc (gd_tt b2) (z1 (zc (gd_tt b2) (z1 (zc (gd_tt b2) (zc (len_s elStr v_1.ks) (zc (gd_tt b2) (z2 (zc b2 (z8 (zc (gd_tt b4) (z1 (zc (gd_tt b4) (z1 (zc (gd_tt b4) (z2 (zc b4 (z2 (zc (gd_tt b2) (z1 (zc (gd_tt b2) (z1 (zc (gd_tt b2) (zc (len_s elStr v_1.ks) (zc (gd_tt b2) (z1 (zc (gd_tt b2) (z1 (zc (gd_tt b2) (zc (len_s encVal v_1.l) (zc (gd_tt b2) (z2 (zc b2 (z7 (zc (eq_of_beq b7) (z2 zt))))))))))))))))))))))))))))))))))))))))))))))))))))))))))))))))))))))))))))))))))))) ?_
  refine T_ret ?_
  obtain rfl := some_inv h
  exact ret_here [(db (((v_1.ks.length : Nat) : Int) == 0))] (by kernel_rfl) (.inl rfl)
  replace h := ite_f b7 h
  rcases Bool.eq_false_or_eq_true (v_1.k == 3) with b8 | b8
  replace h := ite_t b8 h
  refine T_reg (hl 65 [(6, (zd (I ((v_1.l.length : Nat) : Int)))), (8, (zd (B true))), (12, (zd (I ((v_1.ks.length : Nat) : Int)))), (14, (zd (B true))), (21, (zd (I ((v_1.l.length : Nat) : Int)))), (23, (zd (B true))), (27, (zd (I ((v_1.ks.length : Nat) : Int)))), (29, (zd (B true))), (37, (zd (B true))), (41, (zd (I ((v_1.ks.length : Nat) : Int)))), (43, (zd (B true))), (51, (zd (B true))), (55, (zd (I ((v_1.ks.length : Nat) : Int)))), (58, (zd (I ((v_1.l.length : Nat) : Int)))), (60, (zd (B true))), (64, (zd (I 3)))]) [2] [1] (mk 68 [(2, (db (((v_1.ks.length : Nat) : Int) == 0)))] []) _ (by kernel_rfl) (z8 (zc (gd_tt b2) (z1 (zc (gd_tt b2) (z1 (zc (gd_tt b2) (zc (len_s encVal v_1.l) (zc (gd_tt b2) (z2 (zc b2 (z2 (zc (gd_tt b3) (z1 (zc (gd_tt b3) (z1 (zc (gd_tt b3) (zc (len_s elStr v_1.ks) (zc (gd_tt b3) (z2 (zc b3 (z8 (zc (gd_tt b4) (z1 (zc (gd_tt b4) (z1 (zc (gd_tt b4) (zc (len_s encVal v_1.l) (zc (gd_tt b4) (z2 (zc b4 (z2 (zc (gd_tt b3) (z1 (zc (gd_tt b3) (z1 (zc (gd_tt b3) (zc (len_s elStr v_1.ks) (zc (gd_tt b3) (z2 (zc b3 (z8 (zc (gd_tt b4) (z1 (zc (gd_tt b4) (z1 (zc (gd_tt b4) (z2 (zc b4 (z2 (zc (gd_tt b2) (z1 (zc (gd_tt b2) (z1 (zc (gd_tt b2) (zc (len_s elStr v_1.ks) (zc (gd_tt b2) (z2 (zc b2 (z8 (zc (gd_tt b4) (z1 (zc (gd_tt b4) (z1 (zc (gd_tt b4) (z2 (zc b4 (z2 (zc (gd_tt b2) (z1 (zc (gd_tt b2) (z1 (zc (gd_tt b2) (zc (len_s elStr v_1.ks) (zc (gd_tt b2) (z1 (zc (gd_tt b2) (z1 (zc (gd_tt b2) (zc (len_s encVal v_1.l) (zc (gd_tt b2) (z2 (zc b2 (z7 (zc (eq_of_beq b8) (z2 zt))))))))))))))))))))))))))))))))))))))))))))))))))))))))))))))))))))))))))))))))))))) ?_
  refine T_ret ?_
  obtain rfl := some_inv h
  exact ret_here [(db (((v_1.ks.length : Nat) : Int) == 0))] (by kernel_rfl) (.inl rfl)
  replace h := ite_f b8 h
  obtain ⟨c9, h⟩ := ck_inv h
  refine T_reg (hl 65 [(6, (zd (I ((v_1.l.length : Nat) : Int)))), (8, (zd (B true))), (12, (zd (I ((v_1.ks.length : Nat) : Int)))), (14, (zd (B true))), (21, (zd (I ((v_1.l.length : Nat) : Int)))), (23, (zd (B true))), (27, (zd (I ((v_1.ks.length : Nat) : Int)))), (29, (zd (B true))), (37, (zd (B true))), (41, (zd (I ((v_1.ks.length : Nat) : Int)))), (43, (zd (B true))), (51, (zd (B true))), (55, (zd (I ((v_1.ks.length : Nat) : Int)))), (58, (zd (I ((v_1.l.length : Nat) : Int)))), (60, (zd (B true))), (64, (zd (I 4)))]) [2] [1] (mk 68 [(2, (db (((v_1.ks.length : Nat) : Int) == ((v_1.l.length : Nat) : Int))))] []) _ (by kernel_rfl) (z8 (zc (gd_tt b2) (z1 (zc (gd_tt b2) (z1 (zc (gd_tt b2) (zc (len_s encVal v_1.l) (zc (gd_tt b2) (z2 (zc b2 (z2 (zc (gd_tt b3) (z1 (zc (gd_tt b3) (z1 (zc (gd_tt b3) (zc (len_s elStr v_1.ks) (zc (gd_tt b3) (z2 (zc b3 (z8 (zc (gd_tt b4) (z1 (zc (gd_tt b4) (z1 (zc (gd_tt b4) (zc (len_s encVal v_1.l) (zc (gd_tt b4) (z2 (zc b4 (z2 (zc (gd_tt b3) (z1 (zc (gd_tt b3) (z1 (zc (gd_tt b3) (zc (len_s elStr v_1.ks) (zc (gd_tt b3) (z2 (zc b3 (z8 (zc (gd_tt b4) (z1 (zc (gd_tt b4) (z1 (zc (gd_tt b4) (z2 (zc b4 (z2 (zc (gd_tt b2) (z1 (zc (gd_tt b2) (z1 (zc (gd_tt b2) (zc (len_s elStr v_1.ks) (zc (gd_tt b2) (z2 (zc b2 (z8 (zc (gd_tt b4) (z1 (zc (gd_tt b4) (z1 (zc (gd_tt b4) (z2 (zc b4 (z2 (zc (gd_tt b2) (z1 (zc (gd_tt b2) (z1 (zc (gd_tt b2) (zc (len_s elStr v_1.ks) (zc (gd_tt b2) (z1 (zc (gd_tt b2) (z1 (zc (gd_tt b2) (zc (len_s encVal v_1.l) (zc (gd_tt b2) (z2 (zc b2 (z7 (zc c9 (z2 zt))))))))))))))))))))))))))))))))))))))))))))))))))))))))))))))))))))))))))))))))))))) ?_
  refine T_ret ?_
  obtain rfl := some_inv h
  exact ret_here [(db (((v_1.ks.length : Nat) : Int) == ((v_1.l.length : Nat) : Int)))] (by kernel_rfl) (.inl rfl)
  replace h := ite_f b4 h
  rcases Bool.eq_false_or_eq_true (v_1.k == 0) with b10 | b10
  replace h := ite_t b10 h
  refine T_reg [zn, zn, zn, zn, zn, zn, (zd (I ((v_1.l.length : Nat) : Int))), zn, (zd (B true)), zn, zn, zn, (zd (I ((v_1.ks.length : Nat) : Int))), zn, (zd (B true)), zn, zn, zn, zn, zg, zg, zg, zg, (zd (B false)), zn, zg, zg, zg, zg, (zd (B false)), zn, zn, zn, zn, zg, zg, zg, (zd (B false)), zn, zg, zg, zg, zg, (zd (B false)), zn, zn, zn, zn, zg, zg, zg, (zd (B false)), zn, zg, zg, zg, zg, zg, zg, zg, (zd (B false)), zn, zn, zn, (zd (I 0))] [2] [1] (mk 68 [(2, (db false))] []) _ (by kernel_rfl) (z8 (zc (gd_tt b2) (z1 (zc (gd_tt b2) (z1 (zc (gd_tt b2) (zc (len_s encVal v_1.l) (zc (gd_tt b2) (z2 (zc b2 (z2 (zc (gd_tt b3) (z1 (zc (gd_tt b3) (z1 (zc (gd_tt b3) (zc (len_s elStr v_1.ks) (zc (gd_tt b3) (z2 (zc b3 (z8 (zc (gd_ft b4) (zc (gd_ft b4) (zc (gd_ft b4) (zc (gd_ft b4) (z1 (zc b4 (z2 (zc (gd_ft (rfl : false = false)) (zc (gd_ft (rfl : false = false)) (zc (gd_ft (rfl : false = false)) (zc (gd_ft (rfl : false = false)) (z1 (zc (rfl : false = false) (z8 (zc (gd_ft b4) (zc (gd_ft b4) (zc (gd_ft b4) (z1 (zc b4 (z2 (zc (gd_ft (rfl : false = false)) (zc (gd_ft (rfl : false = false)) (zc (gd_ft (rfl : false = false)) (zc (gd_ft (rfl : false = false)) (z1 (zc (rfl : false = false) (z8 (zc (gd_ft b4) (zc (gd_ft b4) (zc (gd_ft b4) (z1 (zc b4 (z2 (zc (gd_ft (rfl : false = false)) (zc (gd_ft (rfl : false = false)) (zc (gd_ft (rfl : false = false)) (zc (gd_ft (rfl : false = false)) (zc (gd_ft (rfl : false = false)) (zc (gd_ft (rfl : false = false)) (zc (gd_ft (rfl : false = false)) (z1 (zc (rfl : false = false) (z7 (zc (eq_of_beq b10) (z2 zt)))))))))))))))))))))))))))))))))))))))))))))))))))))))))))))))))) ?_
  refine T_ret ?_
  obtain rfl := some_inv h
  exact ret_here [(db false)] (by kernel_rfl) (.inl rfl)
  replace h := ite_f b10 h
  rcases Bool.eq_false_or_eq_true (v_1.k == 1) with b11 | b11
  replace h := ite_t b11 h
  refine T_reg [zn, zn, zn, zn, zn, zn, (zd (I ((v_1.l.length : Nat) : Int))), zn, (zd (B true)), zn, zn, zn, (zd (I ((v_1.ks.length : Nat) : Int))), zn, (zd (B true)), zn, zn, zn, zn, zg, zg, zg, zg, (zd (B false)), zn, zg, zg, zg, zg, (zd (B false)), zn, zn, zn, zn, zg, zg, zg, (zd (B false)), zn, zg, zg, zg, zg, (zd (B false)), zn, zn, zn, zn, zg, zg, zg, (zd (B false)), zn, zg, zg, zg, zg, zg, zg, zg, (zd (B false)), zn, zn, zn, (zd (I 1))] [2] [1] (mk 68 [(2, (db (((v_1.ks.length : Nat) : Int) == 0)))] []) _ (by kernel_rfl) (z8 (zc (gd_tt b2) (z1 (zc (gd_tt b2) (z1 (zc (gd_tt b2) (zc (len_s encVal v_1.l) (zc (gd_tt b2) (z2 (zc b2 (z2 (zc (gd_tt b3) (z1 (zc (gd_tt b3) (z1 (zc (gd_tt b3) (zc (len_s elStr v_1.ks) (zc (gd_tt b3) (z2 (zc b3 (z8 (zc (gd_ft b4) (zc (gd_ft b4) (zc (gd_ft b4) (zc (gd_ft b4) (z1 (zc b4 (z2 (zc (gd_ft (rfl : false = false)) (zc (gd_ft (rfl : false = false)) (zc (gd_ft (rfl : false = false)) (zc (gd_ft (rfl : false = false)) (z1 (zc (rfl : false = false) (z8 (zc (gd_ft b4) (zc (gd_ft b4) (zc (gd_ft b4) (z1 (zc b4 (z2 (zc (gd_ft (rfl : false = false)) (zc (gd_ft (rfl : false = false)) (zc (gd_ft (rfl : false = false)) (zc (gd_ft (rfl : false = false)) (z1 (zc (rfl : false = false) (z8 (zc (gd_ft b4) (zc (gd_ft b4) (zc (gd_ft b4) (z1 (zc b4 (z2 (zc (gd_ft (rfl : false = false)) (zc (gd_ft (rfl : false = false)) (zc (gd_ft (rfl : false = false)) (zc (gd_ft (rfl : false = false)) (zc (gd_ft (rfl : false = false)) (zc (gd_ft (rfl : false = false)) (zc (gd_ft (rfl : false = false)) (z1 (zc (rfl : false = false) (z7 (zc (eq_of_beq b11) (z2 zt)))))))))))))))))))))))))))))))))))))))))))))))))))))))))))))))))) ?_
  refine T_ret ?_
  obtain rfl := some_inv h
  exact ret_here [(db (((v_1.ks.length : Nat) : Int) == 0))] (by kernel_rfl) (.inl rfl)
  replace h := ite_f b11 h
  rcases Bool.eq_false_or_eq_true (v_1.k == 2) with b12 | b12
  replace h := ite_t b12 h
  refine T_reg [zn, zn, zn, zn, zn, zn, (zd (I ((v_1.l.length : Nat) : Int))), zn, (zd (B true)), zn, zn, zn, (zd (I ((v_1.ks.length : Nat) : Int))), zn, (zd (B true)), zn, zn, zn, zn, zg, zg, zg, zg, (zd (B false)), zn, zg, zg, zg, zg, (zd (B false)), zn, zn, zn, zn, zg, zg, zg, (zd (B false)), zn, zg, zg, zg, zg, (zd (B false)), zn, zn, zn, zn, zg, zg, zg, (zd (B false)), zn, zg, zg, zg, zg, zg, zg, zg, (zd (B false)), zn, zn, zn, (zd (I 2))] [2] [1] (mk 68 [(2, (db false))] []) _ (by kernel_rfl) (z8 (zc (gd_tt b2) (z1 (zc (gd_tt b2) (z1 (zc (gd_tt b2) (zc (len_s encVal v_1.l) (zc (gd_tt b2) (z2 (zc b2 (z2 (zc (gd_tt b3) (z1 (zc (gd_tt b3) (z1 (zc (gd_tt b3) (zc (len_s elStr v_1.ks) (zc (gd_tt b3) (z2 (zc b3 (z8 (zc (gd_ft b4) (zc (gd_ft b4) (zc (gd_ft b4) (zc (gd_ft b4) (z1 (zc b4 (z2 (zc (gd_ft (rfl : false = false)) (zc (gd_ft (rfl : false = false)) (zc (gd_ft (rfl : false = false)) (zc (gd_ft (rfl : false = false)) (z1 (zc (rfl : false = false) (z8 (zc (gd_ft b4) (zc (gd_ft b4) (zc (gd_ft b4) (z1 (zc b4 (z2 (zc (gd_ft (rfl : false = false)) (zc (gd_ft (rfl : false = false)) (zc (gd_ft (rfl : false = false)) (zc (gd_ft (rfl : false = false)) (z1 (zc (rfl : false = false) (z8 (zc (gd_ft b4) (zc (gd_ft b4) (zc (gd_ft b4) (z1 (zc b4 (z2 (zc (gd_ft (rfl : false = false)) (zc (gd_ft (rfl : false = false)) (zc (gd_ft (rfl : false = false)) (zc (gd_ft (rfl : false = false)) (zc (gd_ft (rfl : false = false)) (zc (gd_ft (rfl : false = false)) (zc (gd_ft (rfl : false = false)) (z1 (zc (rfl : false = false) (z7 (zc (eq_of_beq b12) (z2 zt)))))))))))))))))))))))))))))))))))))))))))))))))))))))))))))))))) ?_
  refine T_ret ?_
  obtain rfl := some_inv h
  exact ret_here [(db false)] (by kernel_rfl) (.inl rfl)
  replace h := ite_f b12 h
  rcases Bool.eq_false_or_eq_true (v_1.k == 3) with b13 | b13
  replace h := ite_t b13 h
  refine T_reg [zn, zn, zn, zn, zn, zn, (zd (I ((v_1.l.length : Nat) : Int))), zn, (zd (B true)), zn, zn, zn, (zd (I ((v_1.ks.length : Nat) : Int))), zn, (zd (B true)), zn, zn, zn, zn, zg, zg, zg, zg, (zd (B false)), zn, zg, zg, zg, zg, (zd (B false)), zn, zn, zn, zn, zg, zg, zg, (zd (B false)), zn, zg, zg, zg, zg, (zd (B false)), zn, zn, zn, zn, zg, zg, zg, (zd (B false)), zn, zg, zg, zg, zg, zg, zg, zg, (zd (B false)), zn, zn, zn, (zd (I 3))] [2] [1] (mk 68 [(2, (db false))] []) _ (by kernel_rfl) (z8 (zc (gd_tt b2) (z1 (zc (gd_tt b2) (z1 (zc (gd_tt b2) (zc (len_s encVal v_1.l) (zc (gd_tt b2) (z2 (zc b2 (z2 (zc (gd_tt b3) (z1 (zc (gd_tt b3) (z1 (zc (gd_tt b3) (zc (len_s elStr v_1.ks) (zc (gd_tt b3) (z2 (zc b3 (z8 (zc (gd_ft b4) (zc (gd_ft b4) (zc (gd_ft b4) (zc (gd_ft b4) (z1 (zc b4 (z2 (zc (gd_ft (rfl : false = false)) (zc (gd_ft (rfl : false = false)) (zc (gd_ft (rfl : false = false)) (zc (gd_ft (rfl : false = false)) (z1 (zc (rfl : false = false) (z8 (zc (gd_ft b4) (zc (gd_ft b4) (zc (gd_ft b4) (z1 (zc b4 (z2 (zc (gd_ft (rfl : false = false)) (zc (gd_ft (rfl : false = false)) (zc (gd_ft (rfl : false = false)) (zc (gd_ft (rfl : false = false)) (z1 (zc (rfl : false = false) (z8 (zc (gd_ft b4) (zc (gd_ft b4) (zc (gd_ft b4) (z1 (zc b4 (z2 (zc (gd_ft (rfl : false = false)) (zc (gd_ft (rfl : false = false)) (zc (gd_ft (rfl : false = false)) (zc (gd_ft (rfl : false = false)) (zc (gd_ft (rfl : false = false)) (zc (gd_ft (rfl : false = false)) (zc (gd_ft (rfl : false = false)) (z1 (zc (rfl : false = false) (z7 (zc (eq_of_beq b13) (z2 zt)))))))))))))))))))))))))))))))))))))))))))))))))))))))))))))))))) ?_
  refine T_ret ?_
  obtain rfl := some_inv h
  exact ret_here [(db false)] (by kernel_rfl) (.inl rfl)
  replace h := ite_f b13 h
  obtain ⟨c14, h⟩ := ck_inv h
  refine T_reg [zn, zn, zn, zn, zn, zn, (zd (I ((v_1.l.length : Nat) : Int))), zn, (zd (B true)), zn, zn, zn, (zd (I ((v_1.ks.length : Nat) : Int))), zn, (zd (B true)), zn, zn, zn, zn, zg, zg, zg, zg, (zd (B false)), zn, zg, zg, zg, zg, (zd (B false)), zn, zn, zn, zn, zg, zg, zg, (zd (B false)), zn, zg, zg, zg, zg, (zd (B false)), zn, zn, zn, zn, zg, zg, zg, (zd (B false)), zn, zg, zg, zg, zg, zg, zg, zg, (zd (B false)), zn, zn, zn, (zd (I 4))] [2] [1] (mk 68 [(2, (db false))] []) _ (by kernel_rfl) (z8 (zc (gd_tt b2) (z1 (zc (gd_tt b2) (z1 (zc (gd_tt b2) (zc (len_s encVal v_1.l) (zc (gd_tt b2) (z2 (zc b2 (z2 (zc (gd_tt b3) (z1 (zc (gd_tt b3) (z1 (zc (gd_tt b3) (zc (len_s elStr v_1.ks) (zc (gd_tt b3) (z2 (zc b3 (z8 (zc (gd_ft b4) (zc (gd_ft b4) (zc (gd_ft b4) (zc (gd_ft b4) (z1 (zc b4 (z2 (zc (gd_ft (rfl : false = false)) (zc (gd_ft (rfl : false = false)) (zc (gd_ft (rfl : false = false)) (zc (gd_ft (rfl : false = false)) (z1 (zc (rfl : false = false) (z8 (zc (gd_ft b4) (zc (gd_ft b4) (zc (gd_ft b4) (z1 (zc b4 (z2 (zc (gd_ft (rfl : false = false)) (zc (gd_ft (rfl : false = false)) (zc (gd_ft (rfl : false = false)) (zc (gd_ft (rfl : false = false)) (z1 (zc (rfl : false = false) (z8 (zc (gd_ft b4) (zc (gd_ft b4) (zc (gd_ft b4) (z1 (zc b4 (z2 (zc (gd_ft (rfl : false = false)) (zc (gd_ft (rfl : false = false)) (zc (gd_ft (rfl : false = false)) (zc (gd_ft (rfl : false = false)) (zc (gd_ft (rfl : false = false)) (zc (gd_ft (rfl : false = false)) (zc (gd_ft (rfl : false = false)) (z1 (zc (rfl : false = false) (z7 (zc c14 (z2 zt)))))))))))))))))))))))))))))))))))))))))))))))))))))))))))))))))) ?_
  refine T_ret ?_
  obtain rfl := some_inv h
  exact ret_here [(db false)] (by kernel_rfl) (.inl rfl)
  replace h := ite_f b3 h
  rcases Bool.eq_false_or_eq_true (v_1.n == 0) with b15 | b15
  replace h := ite_t b15 h
  rcases Bool.eq_false_or_eq_true (v_1.k == 0) with b16 | b16
  replace h := ite_t b16 h
  refine T_reg (hl 65 [(6, (zd (I ((v_1.l.length : Nat) : Int)))), (8, (zd (B true))), (10, zg), (11, zg), (12, zg), (13, zg), (14, (zd (B false))), (21, (zd (I ((v_1.l.length : Nat) : Int)))), (23, (zd (B true))), (25, zg), (26, zg), (27, zg), (28, zg), (29, (zd (B false))), (37, (zd (B true))), (41, (zd (I ((v_1.ks.length : Nat) : Int)))), (43, (zd (B true))), (51, (zd (B true))), (55, (zd (I ((v_1.ks.length : Nat) : Int)))), (58, (zd (I ((v_1.l.length : Nat) : Int)))), (60, (zd (B true))), (64, (zd (I 0)))]) [2] [1] (mk 68 [(2, (db false))] []) _ (by kernel_rfl) (z8 (zc (gd_tt b2) (z1 (zc (gd_tt b2) (z1 (zc (gd_tt b2) (zc (len_s encVal v_1.l) (zc (gd_tt b2) (z2 (zc b2 (z2 (zc (gd_ft b3) (zc (gd_ft b3) (zc (gd_ft b3) (zc (gd_ft b3) (z1 (zc b3 (z8 (zc (gd_tt b15) (z1 (zc (gd_tt b15) (z1 (zc (gd_tt b15) (zc (len_s encVal v_1.l) (zc (gd_tt b15) (z2 (zc b15 (z2 (zc (gd_ft b3) (zc (gd_ft b3) (zc (gd_ft b3) (zc (gd_ft b3) (z1 (zc b3 (z8 (zc (gd_tt b15) (z1 (zc (gd_tt b15) (z1 (zc (gd_tt b15) (z2 (zc b15 (z2 (zc (gd_tt b2) (z1 (zc (gd_tt b2) (z1 (zc (gd_tt b2) (zc (len_s elStr v_1.ks) (zc (gd_tt b2) (z2 (zc b2 (z8 (zc (gd_tt b15) (z1 (zc (gd_tt b15) (z1 (zc (gd_tt b15) (z2 (zc b15 (z2 (zc (gd_tt b2) (z1 (zc (gd_tt b2) (z1 (zc (gd_tt b2) (zc (len_s elStr v_1.ks) (zc (gd_tt b2) (z1 (zc (gd_tt b2) (z1 (zc (gd_tt b2) (zc (len_s encVal v_1.l) (zc (gd_tt b2) (z2 (zc b2 (z7 (zc (eq_of_beq b16) (z2 zt))))))))))))))))))))))))))))))))))))))))))))))))))))))))))))))))))))))))))))))) ?_
  refine T_ret ?_
  obtain rfl := some_inv h
  exact ret_here [(db false)] (by kernel_rfl) (.inl rfl)
  replace h := ite_f b16 h
  rcases Bool.eq_false_or_eq_true (v_1.k == 1) with b17 | b17
  replace h := ite_t b17 h
  refine T_reg (hl 65 [(6, (zd (I ((v_1.l.length : Nat) : Int)))), (8, (zd (B true))), (10, zg), (11, zg), (12, zg), (13, zg), (14, (zd (B false))), (21, (zd (I ((v_1.l.length : Nat) : Int)))), (23, (zd (B true))), (25, zg), (26, zg), (27, zg), (28, zg), (29, (zd (B false))), (37, (zd (B true))), (41, (zd (I ((v_1.ks.length : Nat) : Int)))), (43, (zd (B true))), (51, (zd (B true))), (55, (zd (I ((v_1.ks.length : Nat) : Int)))), (58, (zd (I ((v_1.l.length : Nat) : Int)))), (60, (zd (B true))), (64, (zd (I 1)))]) [2] [1] (mk 68 [(2, (db false))] []) _ (by kernel_rfl) (z8 (zc (gd_tt b2) (z1 (zc (gd_tt b2) (z1 (zc (gd_tt b2) (zc (len_s encVal v_1.l) (zc (gd_tt b2) (z2 (zc b2 (z2 (zc (gd_ft b3) (zc (gd_ft b3) (zc (gd_ft b3) (zc (gd_ft b3) (z1 (zc b3 (z8 (zc (gd_tt b15) (z1 (zc (gd_tt b15) (z1 (zc (gd_tt b15) (zc (len_s encVal v_1.l) (zc (gd_tt b15) (z2 (zc b15 (z2 (zc (gd_ft b3) (zc (gd_ft b3) (zc (gd_ft b3) (zc (gd_ft b3) (z1 (zc b3 (z8 (zc (gd_tt b15) (z1 (zc (gd_tt b15) (z1 (zc (gd_tt b15) (z2 (zc b15 (z2 (zc (gd_tt b2) (z1 (zc (gd_tt b2) (z1 (zc (gd_tt b2) (zc (len_s elStr v_1.ks) (zc (gd_tt b2) (z2 (zc b2 (z8 (zc (gd_tt b15) (z1 (zc (gd_tt b15) (z1 (zc (gd_tt b15) (z2 (zc b15 (z2 (zc (gd_tt b2) (z1 (zc (gd_tt b2) (z1 (zc (gd_tt b2) (zc (len_s elStr v_1.ks) (zc (gd_tt b2) (z1 (zc (gd_tt b2) (z1 (zc (gd_tt b2) (zc (len_s encVal v_1.l) (zc (gd_tt b2) (z2 (zc b2 (z7 (zc (eq_of_beq b17) (z2 zt))))))))))))))))))))))))))))))))))))))))))))))))))))))))))))))))))))))))))))))) ?_
  refine T_ret ?_
  obtain rfl := some_inv h
  exact ret_here [(db false)] (by kernel_rfl) (.inl rfl)
  replace h := ite_f b17 h
  rcases Bool.eq_false_or_eq_true (v_1.k == 2) with b18 | b18
  replace h := ite_t b18 h
  refine T_reg (hl 65 [(6, (zd (I ((v_1.l.length : Nat) : Int)))), (8, (zd (B true))), (10, zg), (11, zg), (12, zg), (13, zg), (14, (zd (B false))), (21, (zd (I ((v_1.l.length : Nat) : Int)))), (23, (zd (B true))), (25, zg), (26, zg), (27, zg), (28, zg), (29, (zd (B false))), (37, (zd (B true))), (41, (zd (I ((v_1.ks.length : Nat) : Int)))), (43, (zd (B true))), (51, (zd (B true))), (55, (zd (I ((v_1.ks.length : Nat) : Int)))), (58, (zd (I ((v_1.l.length : Nat) : Int)))), (60, (zd (B true))), (64, (zd (I 2)))]) [2] [1] (mk 68 [(2, (db false))] []) _ (by kernel_rfl) (z8 (zc (gd_tt b2) (z1 (zc (gd_tt b2) (z1 (zc (gd_tt b2) (zc (len_s encVal v_1.l) (zc (gd_tt b2) (z2 (zc b2 (z2 (zc (gd_ft b3) (zc (gd_ft b3) (zc (gd_ft b3) (zc (gd_ft b3) (z1 (zc b3 (z8 (zc (gd_tt b15) (z1 (zc (gd_tt b15) (z1 (zc (gd_tt b15) (zc (len_s encVal v_1.l) (zc (gd_tt b15) (z2 (zc b15 (z2 (zc (gd_ft b3) (zc (gd_ft b3) (zc (gd_ft b3) (zc (gd_ft b3) (z1 (zc b3 (z8 (zc (gd_tt b15) (z1 (zc (gd_tt b15) (z1 (zc (gd_tt b15) (z2 (zc b15 (z2 (zc (gd_tt b2) (z1 (zc (gd_tt b2) (z1 (zc (gd_tt b2) (zc (len_s elStr v_1.ks) (zc (gd_tt b2) (z2 (zc b2 (z8 (zc (gd_tt b15) (z1 (zc (gd_tt b15) (z1 (zc (gd_tt b15) (z2 (zc b15 (z2 (zc (gd_tt b2) (z1 (zc (gd_tt b2) (z1 (zc (gd_tt b2) (zc (len_s elStr v_1.ks) (zc (gd_tt b2) (z1 (zc (gd_tt b2) (z1 (zc (gd_tt b2) (zc (len_s encVal v_1.l) (zc (gd_tt b2) (z2 (zc b2 (z7 (zc (eq_of_beq b18) (z2 zt))))))))))))))))))))))))))))))))))))))))))))))))))))))))))))))))))))))))))))))) ?_
  refine T_ret ?_
  obtain rfl := some_inv h
  exact ret_here [(db false)] (by kernel_rfl) (.inl rfl)
  replace h := ite_f b18 h
  rcases Bool.eq_false_or_eq_true (v_1.k == 3) with b19 | b19
  replace h := ite_t b19 h
  refine T_reg (hl 65 [(6, (zd (I ((v_1.l.length : Nat) : Int)))), (8, (zd (B true))), (10, zg), (11, zg), (12, zg), (13, zg), (14, (zd (B false))), (21, (zd (I ((v_1.l.length : Nat) : Int)))), (23, (zd (B true))), (25, zg), (26, zg), (27, zg), (28, zg), (29, (zd (B false))), (37, (zd (B true))), (41, (zd (I ((v_1.ks.length : Nat) : Int)))), (43, (zd (B true))), (51, (zd (B true))), (55, (zd (I ((v_1.ks.length : Nat) : Int)))), (58, (zd (I ((v_1.l.length : Nat) : Int)))), (60, (zd (B true))), (64, (zd (I 3)))]) [2] [1] (mk 68 [(2, (db (((v_1.ks.length : Nat) : Int) == 0)))] []) _ (by kernel_rfl) (z8 (zc (gd_tt b2) (z1 (zc (gd_tt b2) (z1 (zc (gd_tt b2) (zc (len_s encVal v_1.l) (zc (gd_tt b2) (z2 (zc b2 (z2 (zc (gd_ft b3) (zc (gd_ft b3) (zc (gd_ft b3) (zc (gd_ft b3) (z1 (zc b3 (z8 (zc (gd_tt b15) (z1 (zc (gd_tt b15) (z1 (zc (gd_tt b15) (zc (len_s encVal v_1.l) (zc (gd_tt b15) (z2 (zc b15 (z2 (zc (gd_ft b3) (zc (gd_ft b3) (zc (gd_ft b3) (zc (gd_ft b3) (z1 (zc b3 (z8 (zc (gd_tt b15) (z1 (zc (gd_tt b15) (z1 (zc (gd_tt b15) (z2 (zc b15 (z2 (zc (gd_tt b2) (z1 (zc (gd_tt b2) (z1 (zc (gd_tt b2) (zc (len_s elStr v_1.ks) (zc (gd_tt b2) (z2 (zc b2 (z8 (zc (gd_tt b15) (z1 (zc (gd_tt b15) (z1 (zc (gd_tt b15) (z2 (zc b15 (z2 (zc (gd_tt b2) (z1 (zc (gd_tt b2) (z1 (zc (gd_tt b2) (zc (len_s elStr v_1.ks) (zc (gd_tt b2) (z1 (zc (gd_tt b2) (z1 (zc (gd_tt b2) (zc (len_s encVal v_1.l) (zc (gd_tt b2) (z2 (zc b2 (z7 (zc (eq_of_beq b19) (z2 zt))))))))))))))))))))))))))))))))))))))))))))))))))))))))))))))))))))))))))))))) ?_
  refine T_ret ?_
  obtain rfl := some_inv h
  exact ret_here [(db (((v_1.ks.length : Nat) : Int) == 0))] (by kernel_rfl) (.inl rfl)
  replace h := ite_f b19 h
  obtain ⟨c20, h⟩ := ck_inv h
  refine T_reg (hl 65 [(6, (zd (I ((v_1.l.length : Nat) : Int)))), (8, (zd (B true))), (10, zg), (11, zg), (12, zg), (13, zg), (14, (zd (B false))), (21, (zd (I ((v_1.l.length : Nat) : Int)))), (23, (zd (B true))), (25, zg), (26, zg), (27, zg), (28, zg), (29, (zd (B false))), (37, (zd (B true))), (41, (zd (I ((v_1.ks.length : Nat) : Int)))), (43, (zd (B true))), (51, (zd (B true))), (55, (zd (I ((v_1.ks.length : Nat) : Int)))), (58, (zd (I ((v_1.l.length : Nat) : Int)))), (60, (zd (B true))), (64, (zd (I 4)))]) [2] [1] (mk 68 [(2, (db (((v_1.ks.length : Nat) : Int) == ((v_1.l.length : Nat) : Int))))] []) _ (by kernel_rfl) (z8 (zc (gd_tt b2) (z1 (zc (gd_tt b2) (z1 (zc (gd_tt b2) (zc (len_s encVal v_1.l) (zc (gd_tt b2) (z2 (zc b2 (z2 (zc (gd_ft b3) (zc (gd_ft b3) (zc (gd_ft b3) (zc (gd_ft b3) (z1 (zc b3 (z8 (zc (gd_tt b15) (z1 (zc (gd_tt b15) (z1 (zc (gd_tt b15) (zc (len_s encVal v_1.l) (zc (gd_tt b15) (z2 (zc b15 (z2 (zc (gd_ft b3) (zc (gd_ft b3) (zc (gd_ft b3) (zc (gd_ft b3) (z1 (zc b3 (z8 (zc (gd_tt b15) (z1 (zc (gd_tt b15) (z1 (zc (gd_tt b15) (z2 (zc b15 (z2 (zc (gd_tt b2) (z1 (zc (gd_tt b2) (z1 (zc (gd_tt b2) (zc (len_s elStr v_1.ks) (zc (gd_tt b2) (z2 (zc b2 (z8 (zc (gd_tt b15) (z1 (zc (gd_tt b15) (z1 (zc (gd_tt b15) (z2 (zc b15 (z2 (zc (gd_tt b2) (z1 (zc (gd_tt b2) (z1 (zc (gd_tt b2) (zc (len_s elStr v_1.ks) (zc (gd_tt b2) (z1 (zc (gd_tt b2) (z1 (zc (gd_tt b2) (zc (len_s encVal v_1.l) (zc (gd_tt b2) (z2 (zc b2 (z7 (zc c20 (z2 zt))))))))))))))))))))))))))))))))))))))))))))))))))))))))))))))))))))))))))))))) ?_
  refine T_ret ?_
  obtain rfl := some_inv h
  exact ret_here [(db (((v_1.ks.length : Nat) : Int) == ((v_1.l.length : Nat) : Int)))] (by kernel_rfl) (.inl rfl)
  replace h := ite_f b15 h
  rcases Bool.eq_false_or_eq_true (v_1.k == 0) with b21 | b21
  replace h := ite_t b21 h
  refine T_reg [zn, zn, zn, zn, zn, zn, (zd (I ((v_1.l.length : Nat) : Int))), zn, (zd (B true)), zn, zg, zg, zg, zg, (zd (B false)), zn, zn, zn, zn, zg, zg, zg, zg, (zd (B false)), zn, zg, zg, zg, zg, (zd (B false)), zn, zn, zn, zn, zg, zg, zg, (zd (B false)), zn, zg, zg, zg, zg, (zd (B false)), zn, zn, zn, zn, zg, zg, zg, (zd (B false)), zn, zg, zg, zg, zg, zg, zg, zg, (zd (B false)), zn, zn, zn, (zd (I 0))] [2] [1] (mk 68 [(2, (db false))] []) _ (by kernel_rfl) (z8 (zc (gd_tt b2) (z1 (zc (gd_tt b2) (z1 (zc (gd_tt b2) (zc (len_s encVal v_1.l) (zc (gd_tt b2) (z2 (zc b2 (z2 (zc (gd_ft b3) (zc (gd_ft b3) (zc (gd_ft b3) (zc (gd_ft b3) (z1 (zc b3 (z8 (zc (gd_ft b15) (zc (gd_ft b15) (zc (gd_ft b15) (zc (gd_ft b15) (z1 (zc b15 (z2 (zc (gd_ft (rfl : false = false)) (zc (gd_ft (rfl : false = false)) (zc (gd_ft (rfl : false = false)) (zc (gd_ft (rfl : false = false)) (z1 (zc (rfl : false = false) (z8 (zc (gd_ft b15) (zc (gd_ft b15) (zc (gd_ft b15) (z1 (zc b15 (z2 (zc (gd_ft (rfl : false = false)) (zc (gd_ft (rfl : false = false)) (zc (gd_ft (rfl : false = false)) (zc (gd_ft (rfl : false = false)) (z1 (zc (rfl : false = false) (z8 (zc (gd_ft b15) (zc (gd_ft b15) (zc (gd_ft b15) (z1 (zc b15 (z2 (zc (gd_ft (rfl : false = false)) (zc (gd_ft (rfl : false = false)) (zc (gd_ft (rfl : false = false)) (zc (gd_ft (rfl : false = false)) (zc (gd_ft (rfl : false = false)) (zc (gd_ft (rfl : false = false)) (zc (gd_ft (rfl : false = false)) (z1 (zc (rfl : false = false) (z7 (zc (eq_of_beq b21) (z2 zt))))))))))))))))))))))))))))))))))))))))))))))))))))))))))))))) ?_
  refine T_ret ?_
  obtain rfl := some_inv h
  exact ret_here [(db false)] (by kernel_rfl) (.inl rfl)
  replace h := ite_f b21 h
  rcases Bool.eq_false_or_eq_true (v_1.k == 1) with b22 | b22
  replace h := ite_t b22 h
  refine T_reg [zn, zn, zn, zn, zn, zn, (zd (I ((v_1.l.length : Nat) : Int))), zn, (zd (B true)), zn, zg, zg, zg, zg, (zd (B false)), zn, zn, zn, zn, zg, zg, zg, zg, (zd (B false)), zn, zg, zg, zg, zg, (zd (B false)), zn, zn, zn, zn, zg, zg, zg, (zd (B false)), zn, zg, zg, zg, zg, (zd (B false)), zn, zn, zn, zn, zg, zg, zg, (zd (B false)), zn, zg, zg, zg, zg, zg, zg, zg, (zd (B false)), zn, zn, zn, (zd (I 1))] [2] [1] (mk 68 [(2, (db false))] []) _ (by kernel_rfl) (z8 (zc (gd_tt b2) (z1 (zc (gd_tt b2) (z1 (zc (gd_tt b2) (zc (len_s encVal v_1.l) (zc (gd_tt b2) (z2 (zc b2 (z2 (zc (gd_ft b3) (zc (gd_ft b3) (zc (gd_ft b3) (zc (gd_ft b3) (z1 (zc b3 (z8 (zc (gd_ft b15) (zc (gd_ft b15) (zc (gd_ft b15) (zc (gd_ft b15) (z1 (zc b15 (z2 (zc (gd_ft (rfl : false = false)) (zc (gd_ft (rfl : false = false)) (zc (gd_ft (rfl : false = false)) (zc (gd_ft (rfl : false = false)) (z1 (zc (rfl : false = false) (z8 (zc (gd_ft b15) (zc (gd_ft b15) (zc (gd_ft b15) (z1 (zc b15 (z2 (zc (gd_ft (rfl : false = false)) (zc (gd_ft (rfl : false = false)) (zc (gd_ft (rfl : false = false)) (zc (gd_ft (rfl : false = false)) (z1 (zc (rfl : false = false) (z8 (zc (gd_ft b15) (zc (gd_ft b15) (zc (gd_ft b15) (z1 (zc b15 (z2 (zc (gd_ft (rfl : false = false)) (zc (gd_ft (rfl : false = false)) (zc (gd_ft (rfl : false = false)) (zc (gd_ft (rfl : false = false)) (zc (gd_ft (rfl : false = false)) (zc (gd_ft (rfl : false = false)) (zc (gd_ft (rfl : false = false)) (z1 (zc (rfl : false = false) (z7 (zc (eq_of_beq b22) (z2 zt))))))))))))))))))))))))))))))))))))))))))))))))))))))))))))))) ?_
  refine T_ret ?_
  obtain rfl := some_inv h
  exact ret_here [(db false)] (by kernel_rfl) (.inl rfl)
  replace h := ite_f b22 h
  rcases Bool.eq_false_or_eq_true (v_1.k == 2) with b23 | b23
  replace h := ite_t b23 h
  refine T_reg [zn, zn, zn, zn, zn, zn, (zd (I ((v_1.l.length : Nat) : Int))), zn, (zd (B true)), zn, zg, zg, zg, zg, (zd (B false)), zn, zn, zn, zn, zg, zg, zg, zg, (zd (B false)), zn, zg, zg, zg, zg, (zd (B false)), zn, zn, zn, zn, zg, zg, zg, (zd (B false)), zn, zg, zg, zg, zg, (zd (B false)), zn, zn, zn, zn, zg, zg, zg, (zd (B false)), zn, zg, zg, zg, zg, zg, zg, zg, (zd (B false)), zn, zn, zn, (zd (I 2))] [2] [1] (mk 68 [(2, (db false))] []) _ (by kernel_rfl) (z8 (zc (gd_tt b2) (z1 (zc (gd_tt b2) (z1 (zc (gd_tt b2) (zc (len_s encVal v_1.l) (zc (gd_tt b2) (z2 (zc b2 (z2 (zc (gd_ft b3) (zc (gd_ft b3) (zc (gd_ft b3) (zc (gd_ft b3) (z1 (zc b3 (z8 (zc (gd_ft b15) (zc (gd_ft b15) (zc (gd_ft b15) (zc (gd_ft b15) (z1 (zc b15 (z2 (zc (gd_ft (rfl : false = false)) (zc (gd_ft (rfl : false = false)) (zc (gd_ft (rfl : false = false)) (zc (gd_ft (rfl : false = false)) (z1 (zc (rfl : false = false) (z8 (zc (gd_ft b15) (zc (gd_ft b15) (zc (gd_ft b15) (z1 (zc b15 (z2 (zc (gd_ft (rfl : false = false)) (zc (gd_ft (rfl : false = false)) (zc (gd_ft (rfl : false = false)) (zc (gd_ft (rfl : false = false)) (z1 (zc (rfl : false = false) (z8 (zc (gd_ft b15) (zc (gd_ft b15) (zc (gd_ft b15) (z1 (zc b15 (z2 (zc (gd_ft (rfl : false = false)) (zc (gd_ft (rfl : false = false)) (zc (gd_ft (rfl : false = false)) (zc (gd_ft (rfl : false = false)) (zc (gd_ft (rfl : false = false)) (zc (gd_ft (rfl : false = false)) (zc (gd_ft (rfl : false = false)) (z1 (zc (rfl : false = false) (z7 (zc (eq_of_beq b23) (z2 zt))))))))))))))))))))))))))))))))))))))))))))))))))))))))))))))) ?_
  refine T_ret ?_
  obtain rfl := some_inv h
  exact ret_here [(db false)] (by kernel_rfl) (.inl rfl)
  replace h := ite_f b23 h
  rcases Bool.eq_false_or_eq_true (v_1.k == 3) with b24 | b24
  replace h := ite_t b24 h
  refine T_reg [zn, zn, zn, zn, zn, zn, (zd (I ((v_1.l.length : Nat) : Int))), zn, (zd (B true)), zn, zg, zg, zg, zg, (zd (B false)), zn, zn, zn, zn, zg, zg, zg, zg, (zd (B false)), zn, zg, zg, zg, zg, (zd (B false)), zn, zn, zn, zn, zg, zg, zg, (zd (B false)), zn, zg, zg, zg, zg, (zd (B false)), zn, zn, zn, zn, zg, zg, zg, (zd (B false)), zn, zg, zg, zg, zg, zg, zg, zg, (zd (B false)), zn, zn, zn, (zd (I 3))] [2] [1] (mk 68 [(2, (db false))] []) _ (by kernel_rfl) (z8 (zc (gd_tt b2) (z1 (zc (gd_tt b2) (z1 (zc (gd_tt b2) (zc (len_s encVal v_1.l) (zc (gd_tt b2) (z2 (zc b2 (z2 (zc (gd_ft b3) (zc (gd_ft b3) (zc (gd_ft b3) (zc (gd_ft b3) (z1 (zc b3 (z8 (zc (gd_ft b15) (zc (gd_ft b15) (zc (gd_ft b15) (zc (gd_ft b15) (z1 (zc b15 (z2 (zc (gd_ft (rfl : false = false)) (zc (gd_ft (rfl : false = false)) (zc (gd_ft (rfl : false = false)) (zc (gd_ft (rfl : false = false)) (z1 (zc (rfl : false = false) (z8 (zc (gd_ft b15) (zc (gd_ft b15) (zc (gd_ft b15) (z1 (zc b15 (z2 (zc (gd_ft (rfl : false = false)) (zc (gd_ft (rfl : false = false)) (zc (gd_ft (rfl : false = false)) (zc (gd_ft (rfl : false = false)) (z1 (zc (rfl : false = false) (z8 (zc (gd_ft b15) (zc (gd_ft b15) (zc (gd_ft b15) (z1 (zc b15 (z2 (zc (gd_ft (rfl : false = false)) (zc (gd_ft (rfl : false = false)) (zc (gd_ft (rfl : false = false)) (zc (gd_ft (rfl : false = false)) (zc (gd_ft (rfl : false = false)) (zc (gd_ft (rfl : false = false)) (zc (gd_ft (rfl : false = false)) (z1 (zc (rfl : false = false) (z7 (zc (eq_of_beq b24) (z2 zt))))))))))))))))))))))))))))))))))))))))))))))))))))))))))))))) ?_
  refine T_ret ?_
  obtain rfl := some_inv h
  exact ret_here [(db false)] (by kernel_rfl) (.inl rfl)
  replace h := ite_f b24 h
  obtain ⟨c25, h⟩ := ck_inv h
  refine T_reg [zn, zn, zn, zn, zn, zn, (zd (I ((v_1.l.length : Nat) : Int))), zn, (zd (B true)), zn, zg, zg, zg, zg, (zd (B false)), zn, zn, zn, zn, zg, zg, zg, zg, (zd (B false)), zn, zg, zg, zg, zg, (zd (B false)), zn, zn, zn, zn, zg, zg, zg, (zd (B false)), zn, zg, zg, zg, zg, (zd (B false)), zn, zn, zn, zn, zg, zg, zg, (zd (B false)), zn, zg, zg, zg, zg, zg, zg, zg, (zd (B false)), zn, zn, zn, (zd (I 4))] [2] [1] (mk 68 [(2, (db false))] []) _ (by kernel_rfl) (z8 (zc (gd_tt b2) (z1 (zc (gd_tt b2) (z1 (zc (gd_tt b2) (zc (len_s encVal v_1.l) (zc (gd_tt b2) (z2 (zc b2 (z2 (zc (gd_ft b3) (zc (gd_ft b3) (zc (gd_ft b3) (zc (gd_ft b3) (z1 (zc b3 (z8 (zc (gd_ft b15) (zc (gd_ft b15) (zc (gd_ft b15) (zc (gd_ft b15) (z1 (zc b15 (z2 (zc (gd_ft (rfl : false = false)) (zc (gd_ft (rfl : false = false)) (zc (gd_ft (rfl : false = false)) (zc (gd_ft (rfl : false = false)) (z1 (zc (rfl : false = false) (z8 (zc (gd_ft b15) (zc (gd_ft b15) (zc (gd_ft b15) (z1 (zc b15 (z2 (zc (gd_ft (rfl : false = false)) (zc (gd_ft (rfl : false = false)) (zc (gd_ft (rfl : false = false)) (zc (gd_ft (rfl : false = false)) (z1 (zc (rfl : false = false) (z8 (zc (gd_ft b15) (zc (gd_ft b15) (zc (gd_ft b15) (z1 (zc b15 (z2 (zc (gd_ft (rfl : false = false)) (zc (gd_ft (rfl : false = false)) (zc (gd_ft (rfl : false = false)) (zc (gd_ft (rfl : false = false)) (zc (gd_ft (rfl : false = false)) (zc (gd_ft (rfl : false = false)) (zc (gd_ft (rfl : false = false)) (z1 (zc (rfl : false = false) (z7 (zc c25 (z2 zt))))))))))))))))))))))))))))))))))))))))))))))))))))))))))))))) ?_
  refine T_ret ?_
  obtain rfl := some_inv h
  exact ret_here [(db false)] (by kernel_rfl) (.inl rfl)
  replace h := ite_f b2 h
  rcases Bool.eq_false_or_eq_true (v_1.n == 0) with b26 | b26
  replace h := ite_t b26 h
  rcases Bool.eq_false_or_eq_true (((v_1.l.length : Nat) : Int) == 0) with b27 | b27
  replace h := ite_t b27 h
  rcases Bool.eq_false_or_eq_true (v_1.k == 0) with b28 | b28
  replace h := ite_t b28 h
  refine T_reg [zn, zn, zn, zn, zg, zg, zg, zg, (zd (B false)), zn, zg, zg, zg, zg, (zd (B false)), zn, zn, zn, zn, zn, zn, (zd (I ((v_1.l.length : Nat) : Int))), zn, (zd (B true)), zn, zn, zn, (zd (I ((v_1.ks.length : Nat) : Int))), zn, (zd (B true)), zn, zn, zn, zn, zn, zn, zn, (zd (B true)), zn, zg, zg, zg, zg, (zd (B false)), zn, zn, zn, zn, zn, zn, zn, (zd (B true)), zn, zg, zg, zg, zg, zg, zg, zg, (zd (B false)), zn, zn, zn, (zd (I 0))] [2] [1] (mk 68 [(2, (db false))] []) _ (by kernel_rfl) (z8 (zc (gd_ft b2) (zc (gd_ft b2) (zc (gd_ft b2) (zc (gd_ft b2) (z1 (zc b2 (z2 (zc (gd_ft (rfl : false = false)) (zc (gd_ft (rfl : false = false)) (zc (gd_ft (rfl : false = false)) (zc (gd_ft (rfl : false = false)) (z1 (zc (rfl : false = false) (z8 (zc (gd_tt b26) (z1 (zc (gd_tt b26) (z1 (zc (gd_tt b26) (zc (len_s encVal v_1.l) (zc (gd_tt b26) (z2 (zc b26 (z2 (zc (gd_tt b27) (z1 (zc (gd_tt b27) (z1 (zc (gd_tt b27) (zc (len_s elStr v_1.ks) (zc (gd_tt b27) (z2 (zc b27 (z8 (zc (gd_tt b26) (z1 (zc (gd_tt b26) (z1 (zc (gd_tt b26) (z2 (zc b26 (z2 (zc (gd_ft b2) (zc (gd_ft b2) (zc (gd_ft b2) (zc (gd_ft b2) (z1 (zc b2 (z8 (zc (gd_tt b26) (z1 (zc (gd_tt b26) (z1 (zc (gd_tt b26) (z2 (zc b26 (z2 (zc (gd_ft b2) (zc (gd_ft b2) (zc (gd_ft b2) (zc (gd_ft b2) (zc (gd_ft b2) (zc (gd_ft b2) (zc (gd_ft b2) (z1 (zc b2 (z7 (zc (eq_of_beq b28) (z2 zt)))))))))))))))))))))))))))))))))))))))))))))))))))))))))))))))))))))) ?_
  refine T_ret ?_
  obtain rfl := some_inv h
  exact ret_here [(db false)] (by kernel_rfl) (.inl rfl)
  replace h := ite_f b28 h
  rcases Bool.eq_false_or_eq_true (v_1.k == 1) with b29 | b29
  replace h := ite_t b29 h
  refine T_reg [zn, zn, zn, zn, zg, zg, zg, zg, (zd (B false)), zn, zg, zg, zg, zg, (zd (B false)), zn, zn, zn, zn, zn, zn, (zd (I ((v_1.l.length : Nat) : Int))), zn, (zd (B true)), zn, zn, zn, (zd (I ((v_1.ks.length : Nat) : Int))), zn, (zd (B true)), zn, zn, zn, zn, zn, zn, zn, (zd (B true)), zn, zg, zg, zg, zg, (zd (B false)), zn, zn, zn, zn, zn, zn, zn, (zd (B true)), zn, zg, zg, zg, zg, zg, zg, zg, (zd (B false)), zn, zn, zn, (zd (I 1))] [2] [1] (mk 68 [(2, (db false))] []) _ (by kernel_rfl) (z8 (zc (gd_ft b2) (zc (gd_ft b2) (zc (gd_ft b2) (zc (gd_ft b2) (z1 (zc b2 (z2 (zc (gd_ft (rfl : false = false)) (zc (gd_ft (rfl : false = false)) (zc (gd_ft (rfl : false = false)) (zc (gd_ft (rfl : false = false)) (z1 (zc (rfl : false = false) (z8 (zc (gd_tt b26) (z1 (zc (gd_tt b26) (z1 (zc (gd_tt b26) (zc (len_s encVal v_1.l) (zc (gd_tt b26) (z2 (zc b26 (z2 (zc (gd_tt b27) (z1 (zc (gd_tt b27) (z1 (zc (gd_tt b27) (zc (len_s elStr v_1.ks) (zc (gd_tt b27) (z2 (zc b27 (z8 (zc (gd_tt b26) (z1 (zc (gd_tt b26) (z1 (zc (gd_tt b26) (z2 (zc b26 (z2 (zc (gd_ft b2) (zc (gd_ft b2) (zc (gd_ft b2) (zc (gd_ft b2) (z1 (zc b2 (z8 (zc (gd_tt b26) (z1 (zc (gd_tt b26) (z1 (zc (gd_tt b26) (z2 (zc b26 (z2 (zc (gd_ft b2) (zc (gd_ft b2) (zc (gd_ft b2) (zc (gd_ft b2) (zc (gd_ft b2) (zc (gd_ft b2) (zc (gd_ft b2) (z1 (zc b2 (z7 (zc (eq_of_beq b29) (z2 zt)))))))))))))))))))))))))))))))))))))))))))))))))))))))))))))))))))))) ?_
  refine T_ret ?_
  obtain rfl := some_inv h
  exact ret_here [(db false)] (by kernel_rfl) (.inl rfl)
  replace h := ite_f b29 h
  rcases Bool.eq_false_or_eq_true (v_1.k == 2) with b30 | b30
  replace h := ite_t b30 h
  refine T_reg [zn, zn, zn, zn, zg, zg, zg, zg, (zd (B false)), zn, zg, zg, zg, zg, (zd (B false)), zn, zn, zn, zn, zn, zn, (zd (I ((v_1.l.length : Nat) : Int))), zn, (zd (B true)), zn, zn, zn, (zd (I ((v_1.ks.length : Nat) : Int))), zn, (zd (B true)), zn, zn, zn, zn, zn, zn, zn, (zd (B true)), zn, zg, zg, zg, zg, (zd (B false)), zn, zn, zn, zn, zn, zn, zn, (zd (B true)), zn, zg, zg, zg, zg, zg, zg, zg, (zd (B false)), zn, zn, zn, (zd (I 2))] [2] [1] (mk 68 [(2, (db (((v_1.ks.length : Nat) : Int) == 0)))] []) _ (by kernel_rfl) (z8 (zc (gd_ft b2) (zc (gd_ft b2) (zc (gd_ft b2) (zc (gd_ft b2) (z1 (zc b2 (z2 (zc (gd_ft (rfl : false = false)) (zc (gd_ft (rfl : false = false)) (zc (gd_ft (rfl : false = false)) (zc (gd_ft (rfl : false = false)) (z1 (zc (rfl : false = false) (z8 (zc (gd_tt b26) (z1 (zc (gd_tt b26) (z1 (zc (gd_tt b26) (zc (len_s encVal v_1.l) (zc (gd_tt b26) (z2 (zc b26 (z2 (zc (gd_tt b27) (z1 (zc (gd_tt b27) (z1 (zc (gd_tt b27) (zc (len_s elStr v_1.ks) (zc (gd_tt b27) (z2 (zc b27 (z8 (zc (gd_tt b26) (z1 (zc (gd_tt b26) (z1 (zc (gd_tt b26) (z2 (zc b26 (z2 (zc (gd_ft b2) (zc (gd_ft b2) (zc (gd_ft b2) (zc (gd_ft b2) (z1 (zc b2 (z8 (zc (gd_tt b26) (z1 (zc (gd_tt b26) (z1 (zc (gd_tt b26) (z2 (zc b26 (z2 (zc (gd_ft b2) (zc (gd_ft b2) (zc (gd_ft b2) (zc (gd_ft b2) (zc (gd_ft b2) (zc (gd_ft b2) (zc (gd_ft b2) (z1 (zc b2 (z7 (zc (eq_of_beq b30) (z2 zt)))))))))))))))))))))))))))))))))))))))))))))))))))))))))))))))))))))) ?_
  refine T_ret ?_
  obtain rfl := some_inv h
  exact ret_here [(db (((v_1.ks.length : Nat) : Int) == 0))] (by kernel_rfl) (.inl rfl)
  replace h := ite_f b30 h
  rcases Bool.eq_false_or_eq_true (v_1.k == 3) with b31 | b31
  replace h := ite_t b31 h
  refine T_reg [zn, zn, zn, zn, zg, zg, zg, zg, (zd (B false)), zn, zg, zg, zg, zg, (zd (B false)), zn, zn, zn, zn, zn, zn, (zd (I ((v_1.l.length : Nat) : Int))), zn, (zd (B true)), zn, zn, zn, (zd (I ((v_1.ks.length : Nat) : Int))), zn, (zd (B true)), zn, zn, zn, zn, zn, zn, zn, (zd (B true)), zn, zg, zg, zg, zg, (zd (B false)), zn, zn, zn, zn, zn, zn, zn, (zd (B true)), zn, zg, zg, zg, zg, zg, zg, zg, (zd (B false)), zn, zn, zn, (zd (I 3))] [2] [1] (mk 68 [(2, (db false))] []) _ (by kernel_rfl) (z8 (zc (gd_ft b2) (zc (gd_ft b2) (zc (gd_ft b2) (zc (gd_ft b2) (z1 (zc b2 (z2 (zc (gd_ft (rfl : false = false)) (zc (gd_ft (rfl : false = false)) (zc (gd_ft (rfl : false = false)) (zc (gd_ft (rfl : false = false)) (z1 (zc (rfl : false = false) (z8 (zc (gd_tt b26) (z1 (zc (gd_tt b26) (z1 (zc (gd_tt b26) (zc (len_s encVal v_1.l) (zc (gd_tt b26) (z2 (zc b26 (z2 (zc (gd_tt b27) (z1 (zc (gd_tt b27) (z1 (zc (gd_tt b27) (zc (len_s elStr v_1.ks) (zc (gd_tt b27) (z2 (zc b27 (z8 (zc (gd_tt b26) (z1 (zc (gd_tt b26) (z1 (zc (gd_tt b26) (z2 (zc b26 (z2 (zc (gd_ft b2) (zc (gd_ft b2) (zc (gd_ft b2) (zc (gd_ft b2) (z1 (zc b2 (z8 (zc (gd_tt b26) (z1 (zc (gd_tt b26) (z1 (zc (gd_tt b26) (z2 (zc b26 (z2 (zc (gd_ft b2) (zc (gd_ft b2) (zc (gd_ft b2) (zc (gd_ft b2) (zc (gd_ft b2) (zc (gd_ft b2) (zc (gd_ft b2) (z1 (zc b2 (z7 (zc (eq_of_beq b31) (z2 zt)))))))))))))))))))))))))))))))))))))))))))))))))))))))))))))))))))))) ?_
  refine T_ret ?_
  obtain rfl := some_inv h
  exact ret_here [(db false)] (by kernel_rfl) (.inl rfl)
  replace h := ite_f b31 h
  obtain ⟨c32, h⟩ := ck_inv h
  refine T_reg [zn, zn, zn, zn, zg, zg, zg, zg, (zd (B false)), zn, zg, zg, zg, zg, (zd (B false)), zn, zn, zn, zn, zn, zn, (zd (I ((v_1.l.length : Nat) : Int))), zn, (zd (B true)), zn, zn, zn, (zd (I ((v_1.ks.length : Nat) : Int))), zn, (zd (B true)), zn, zn, zn, zn, zn, zn, zn, (zd (B true)), zn, zg, zg, zg, zg, (zd (B false)), zn, zn, zn, zn, zn, zn, zn, (zd (B true)), zn, zg, zg, zg, zg, zg, zg, zg, (zd (B false)), zn, zn, zn, (zd (I 4))] [2] [1] (mk 68 [(2, (db false))] []) _ (by kernel_rfl) (z8 (zc (gd_ft b2) (zc (gd_ft b2) (zc (gd_ft b2) (zc (gd_ft b2) (z1 (zc b2 (z2 (zc (gd_ft (rfl : false = false)) (zc (gd_ft (rfl : false = false)) (zc (gd_ft (rfl : false = false)) (zc (gd_ft (rfl : false = false)) (z1 (zc (rfl : false = false) (z8 (zc (gd_tt b26) (z1 (zc (gd_tt b26) (z1 (zc (gd_tt b26) (zc (len_s encVal v_1.l) (zc (gd_tt b26) (z2 (zc b26 (z2 (zc (gd_tt b27) (z1 (zc (gd_tt b27) (z1 (zc (gd_tt b27) (zc (len_s elStr v_1.ks) (zc (gd_tt b27) (z2 (zc b27 (z8 (zc (gd_tt b26) (z1 (zc (gd_tt b26) (z1 (zc (gd_tt b26) (z2 (zc b26 (z2 (zc (gd_ft b2) (zc (gd_ft b2) (zc (gd_ft b2) (zc (gd_ft b2) (z1 (zc b2 (z8 (zc (gd_tt b26) (z1 (zc (gd_tt b26) (z1 (zc (gd_tt b26) (z2 (zc b26 (z2 (zc (gd_ft b2) (zc (gd_ft b2) (zc (gd_ft b2) (zc (gd_ft b2) (zc (gd_ft b2) (zc (gd_ft b2) (zc (gd_ft b2) (z1 (zc b2 (z7 (zc c32 (z2 zt)))))))))))))))))))))))))))))))))))))))))))))))))))))))))))))))))))))) ?_
  refine T_ret ?_
  obtain rfl := some_inv h
  exact ret_here [(db false)] (by kernel_rfl) (.inl rfl)
  replace h := ite_f b27 h
  rcases Bool.eq_false_or_eq_true (v_1.k == 0) with b33 | b33
  replace h := ite_t b33 h
  refine T_reg [zn, zn, zn, zn, zg, zg, zg, zg, (zd (B false)), zn, zg, zg, zg, zg, (zd (B false)), zn, zn, zn, zn, zn, zn, (zd (I ((v_1.l.length : Nat) : Int))), zn, (zd (B true)), zn, zg, zg, zg, zg, (zd (B false)), zn, zn, zn, zn, zn, zn, zn, (zd (B true)), zn, zg, zg, zg, zg, (zd (B false)), zn, zn, zn, zn, zn, zn, zn, (zd (B true)), zn, zg, zg, zg, zg, zg, zg, zg, (zd (B false)), zn, zn, zn, (zd (I 0))] [2] [1] (mk 68 [(2, (db false))] []) _ (by kernel_rfl) (z8 (zc (gd_ft b2) (zc (gd_ft b2) (zc (gd_ft b2) (zc (gd_ft b2) (z1 (zc b2 (z2 (zc (gd_ft (rfl : false = false)) (zc (gd_ft (rfl : false = false)) (zc (gd_ft (rfl : false = false)) (zc (gd_ft (rfl : false = false)) (z1 (zc (rfl : false = false) (z8 (zc (gd_tt b26) (z1 (zc (gd_tt b26) (z1 (zc (gd_tt b26) (zc (len_s encVal v_1.l) (zc (gd_tt b26) (z2 (zc b26 (z2 (zc (gd_ft b27) (zc (gd_ft b27) (zc (gd_ft b27) (zc (gd_ft b27) (z1 (zc b27 (z8 (zc (gd_tt b26) (z1 (zc (gd_tt b26) (z1 (zc (gd_tt b26) (z2 (zc b26 (z2 (zc (gd_ft b2) (zc (gd_ft b2) (zc (gd_ft b2) (zc (gd_ft b2) (z1 (zc b2 (z8 (zc (gd_tt b26) (z1 (zc (gd_tt b26) (z1 (zc (gd_tt b26) (z2 (zc b26 (z2 (zc (gd_ft b2) (zc (gd_ft b2) (zc (gd_ft b2) (zc (gd_ft b2) (zc (gd_ft b2) (zc (gd_ft b2) (zc (gd_ft b2) (z1 (zc b2 (z7 (zc (eq_of_beq b33) (z2 zt))))))))))))))))))))))))))))))))))))))))))))))))))))))))))))))))))) ?_
  refine T_ret ?_
  obtain rfl := some_inv h
  exact ret_here [(db false)] (by kernel_rfl) (.inl rfl)
  replace h := ite_f b33 h
  rcases Bool.eq_false_or_eq_true (v_1.k == 1) with b34 | b34
  replace h := ite_t b34 h
  refine T_reg [zn, zn, zn, zn, zg, zg, zg, zg, (zd (B false)), zn, zg, zg, zg, zg, (zd (B false)), zn, zn, zn, zn, zn, zn, (zd (I ((v_1.l.length : Nat) : Int))), zn, (zd (B true)), zn, zg, zg, zg, zg, (zd (B false)), zn, zn, zn, zn, zn, zn, zn, (zd (B true)), zn, zg, zg, zg, zg, (zd (B false)), zn, zn, zn, zn, zn, zn, zn, (zd (B true)), zn, zg, zg, zg, zg, zg, zg, zg, (zd (B false)), zn, zn, zn, (zd (I 1))] [2] [1] (mk 68 [(2, (db false))] []) _ (by kernel_rfl) (z8 (zc (gd_ft b2) (zc (gd_ft b2) (zc (gd_ft b2) (zc (gd_ft b2) (z1 (zc b2 (z2 (zc (gd_ft (rfl : false = false)) (zc (gd_ft (rfl : false = false)) (zc (gd_ft (rfl : false = false)) (zc (gd_ft (rfl : false = false)) (z1 (zc (rfl : false = false) (z8 (zc (gd_tt b26) (z1 (zc (gd_tt b26) (z1 (zc (gd_tt b26) (zc (len_s encVal v_1.l) (zc (gd_tt b26) (z2 (zc b26 (z2 (zc (gd_ft b27) (zc (gd_ft b27) (zc (gd_ft b27) (zc (gd_ft b27) (z1 (zc b27 (z8 (zc (gd_tt b26) (z1 (zc (gd_tt b26) (z1 (zc (gd_tt b26) (z2 (zc b26 (z2 (zc (gd_ft b2) (zc (gd_ft b2) (zc (gd_ft b2) (zc (gd_ft b2) (z1 (zc b2 (z8 (zc (gd_tt b26) (z1 (zc (gd_tt b26) (z1 (zc (gd_tt b26) (z2 (zc b26 (z2 (zc (gd_ft b2) (zc (gd_ft b2) (zc (gd_ft b2) (zc (gd_ft b2) (zc (gd_ft b2) (zc (gd_ft b2) (zc (gd_ft b2) (z1 (zc b2 (z7 (zc (eq_of_beq b34) (z2 zt))))))))))))))))))))))))))))))))))))))))))))))))))))))))))))))))))) ?_
  refine T_ret ?_
  obtain rfl := some_inv h
  exact ret_here [(db false)] (by kernel_rfl) (.inl rfl)
  replace h := ite_f b34 h
  rcases Bool.eq_false_or_eq_true (v_1.k == 2) with b35 | b35
  replace h := ite_t b35 h
  refine T_reg [zn, zn, zn, zn, zg, zg, zg, zg, (zd (B false)), zn, zg, zg, zg, zg, (zd (B false)), zn, zn, zn, zn, zn, zn, (zd (I ((v_1.l.length : Nat) : Int))), zn, (zd (B true)), zn, zg, zg, zg, zg, (zd (B false)), zn, zn, zn, zn, zn, zn, zn, (zd (B true)), zn, zg, zg, zg, zg, (zd (B false)), zn, zn, zn, zn, zn, zn, zn, (zd (B true)), zn, zg, zg, zg, zg, zg, zg, zg, (zd (B false)), zn, zn, zn, (zd (I 2))] [2] [1] (mk 68 [(2, (db false))] []) _ (by kernel_rfl) (z8 (zc (gd_ft b2) (zc (gd_ft b2) (zc (gd_ft b2) (zc (gd_ft b2) (z1 (zc b2 (z2 (zc (gd_ft (rfl : false = false)) (zc (gd_ft (rfl : false = false)) (zc (gd_ft (rfl : false = false)) (zc (gd_ft (rfl : false = false)) (z1 (zc (rfl : false = false) (z8 (zc (gd_tt b26) (z1 (zc (gd_tt b26) (z1 (zc (gd_tt b26) (zc (len_s encVal v_1.l) (zc (gd_tt b26) (z2 (zc b26 (z2 (zc (gd_ft b27) (zc (gd_ft b27) (zc (gd_ft b27) (zc (gd_ft b27) (z1 (zc b27 (z8 (zc (gd_tt b26) (z1 (zc (gd_tt b26) (z1 (zc (gd_tt b26) (z2 (zc b26 (z2 (zc (gd_ft b2) (zc (gd_ft b2) (zc (gd_ft b2) (zc (gd_ft b2) (z1 (zc b2 (z8 (zc (gd_tt b26) (z1 (zc (gd_tt b26) (z1 (zc (gd_tt b26) (z2 (zc b26 (z2 (zc (gd_ft b2) (zc (gd_ft b2) (zc (gd_ft b2) (zc (gd_ft b2) (zc (gd_ft b2) (zc (gd_ft b2) (zc (gd_ft b2) (z1 (zc b2 (z7 (zc (eq_of_beq b35) (z2 zt))))))))))))))))))))))))))))))))))))))))))))))))))))))))))))))))))) ?_
  refine T_ret ?_
  obtain rfl := some_inv h
  exact ret_here [(db false)] (by kernel_rfl) (.inl rfl)
  replace h := ite_f b35 h
  rcases Bool.eq_false_or_eq_true (v_1.k == 3) with b36 | b36
  replace h := ite_t b36 h
  refine T_reg [zn, zn, zn, zn, zg, zg, zg, zg, (zd (B false)), zn, zg, zg, zg, zg, (zd (B false)), zn, zn, zn, zn, zn, zn, (zd (I ((v_1.l.length : Nat) : Int))), zn, (zd (B true)), zn, zg, zg, zg, zg, (zd (B false)), zn, zn, zn, zn, zn, zn, zn, (zd (B true)), zn, zg, zg, zg, zg, (zd (B false)), zn, zn, zn, zn, zn, zn, zn, (zd (B true)), zn, zg, zg, zg, zg, zg, zg, zg, (zd (B false)), zn, zn, zn, (zd (I 3))] [2] [1] (mk 68 [(2, (db false))] []) _ (by kernel_rfl) (z8 (zc (gd_ft b2) (zc (gd_ft b2) (zc (gd_ft b2) (zc (gd_ft b2) (z1 (zc b2 (z2 (zc (gd_ft (rfl : false = false)) (zc (gd_ft (rfl : false = false)) (zc (gd_ft (rfl : false = false)) (zc (gd_ft (rfl : false = false)) (z1 (zc (rfl : false = false) (z8 (zc (gd_tt b26) (z1 (zc (gd_tt b26) (z1 (zc (gd_tt b26) (zc (len_s encVal v_1.l) (zc (gd_tt b26) (z2 (zc b26 (z2 (zc (gd_ft b27) (zc (gd_ft b27) (zc (gd_ft b27) (zc (gd_ft b27) (z1 (zc b27 (z8 (zc (gd_tt b26) (z1 (zc (gd_tt b26) (z1 (zc (gd_tt b26) (z2 (zc b26 (z2 (zc (gd_ft b2) (zc (gd_ft b2) (zc (gd_ft b2) (zc (gd_ft b2) (z1 (zc b2 (z8 (zc (gd_tt b26) (z1 (zc (gd_tt b26) (z1 (zc (gd_tt b26) (z2 (zc b26 (z2 (zc (gd_ft b2) (zc (gd_ft b2) (zc (gd_ft b2) (zc (gd_ft b2) (zc (gd_ft b2) (zc (gd_ft b2) (zc (gd_ft b2) (z1 (zc b2 (z7 (zc (eq_of_beq b36) (z2 zt))))))))))))))))))))))))))))))))))))))))))))))))))))))))))))))))))) ?_
  refine T_ret ?_
  obtain rfl := some_inv h
  exact ret_here [(db false)] (by kernel_rfl) (.inl rfl)
  replace h := ite_f b36 h
  obtain ⟨c37, h⟩ := ck_inv h
  refine T_reg [zn, zn, zn, zn, zg, zg, zg, zg, (zd (B false)), zn, zg, zg, zg, zg, (zd (B false)), zn, zn, zn, zn, zn, zn, (zd (I ((v_1.l.length : Nat) : Int))), zn, (zd (B true)), zn, zg, zg, zg, zg, (zd (B false)), zn, zn, zn, zn, zn, zn, zn, (zd (B true)), zn, zg, zg, zg, zg, (zd (B false)), zn, zn, zn, zn, zn, zn, zn, (zd (B true)), zn, zg, zg, zg, zg, zg, zg, zg, (zd (B false)), zn, zn, zn, (zd (I 4))] [2] [1] (mk 68 [(2, (db false))] []) _ (by kernel_rfl) (z8 (zc (gd_ft b2) (zc (gd_ft b2) (zc (gd_ft b2) (zc (gd_ft b2) (z1 (zc b2 (z2 (zc (gd_ft (rfl : false = false)) (zc (gd_ft (rfl : false = false)) (zc (gd_ft (rfl : false = false)) (zc (gd_ft (rfl : false = false)) (z1 (zc (rfl : false = false) (z8 (zc (gd_tt b26) (z1 (zc (gd_tt b26) (z1 (zc (gd_tt b26) (zc (len_s encVal v_1.l) (zc (gd_tt b26) (z2 (zc b26 (z2 (zc (gd_ft b27) (zc (gd_ft b27) (zc (gd_ft b27) (zc (gd_ft b27) (z1 (zc b27 (z8 (zc (gd_tt b26) (z1 (zc (gd_tt b26) (z1 (zc (gd_tt b26) (z2 (zc b26 (z2 (zc (gd_ft b2) (zc (gd_ft b2) (zc (gd_ft b2) (zc (gd_ft b2) (z1 (zc b2 (z8 (zc (gd_tt b26) (z1 (zc (gd_tt b26) (z1 (zc (gd_tt b26) (z2 (zc b26 (z2 (zc (gd_ft b2) (zc (gd_ft b2) (zc (gd_ft b2) (zc (gd_ft b2) (zc (gd_ft b2) (zc (gd_ft b2) (zc (gd_ft b2) (z1 (zc b2 (z7 (zc c37 (z2 zt))))))))))))))))))))))))))))))))))))))))))))))))))))))))))))))))))) ?_
  refine T_ret ?_
  obtain rfl := some_inv h
  exact ret_here [(db false)] (by kernel_rfl) (.inl rfl)
  replace h := ite_f b26 h
  rcases Bool.eq_false_or_eq_true (v_1.k == 0) with b38 | b38
  replace h := ite_t b38 h
  refine T_reg [zn, zn, zn, zn, zg, zg, zg, zg, (zd (B false)), zn, zg, zg, zg, zg, (zd (B false)), zn, zn, zn, zn, zg, zg, zg, zg, (zd (B false)), zn, zg, zg, zg, zg, (zd (B false)), zn, zn, zn, zn, zg, zg, zg, (zd (B false)), zn, zg, zg, zg, zg, (zd (B false)), zn, zn, zn, zn, zg, zg, zg, (zd (B false)), zn, zg, zg, zg, zg, zg, zg, zg, (zd (B false)), zn, zn, zn, (zd (I 0))] [2] [1] (mk 68 [(2, (db false))] []) _ (by kernel_rfl) (z8 (zc (gd_ft b2) (zc (gd_ft b2) (zc (gd_ft b2) (zc (gd_ft b2) (z1 (zc b2 (z2 (zc (gd_ft (rfl : false = false)) (zc (gd_ft (rfl : false = false)) (zc (gd_ft (rfl : false = false)) (zc (gd_ft (rfl : false = false)) (z1 (zc (rfl : false = false) (z8 (zc (gd_ft b26) (zc (gd_ft b26) (zc (gd_ft b26) (zc (gd_ft b26) (z1 (zc b26 (z2 (zc (gd_ft (rfl : false = false)) (zc (gd_ft (rfl : false = false)) (zc (gd_ft (rfl : false = false)) (zc (gd_ft (rfl : false = false)) (z1 (zc (rfl : false = false) (z8 (zc (gd_ft b26) (zc (gd_ft b26) (zc (gd_ft b26) (z1 (zc b26 (z2 (zc (gd_ft (rfl : false = false)) (zc (gd_ft (rfl : false = false)) (zc (gd_ft (rfl : false = false)) (zc (gd_ft (rfl : false = false)) (z1 (zc (rfl : false = false) (z8 (zc (gd_ft b26) (zc (gd_ft b26) (zc (gd_ft b26) (z1 (zc b26 (z2 (zc (gd_ft (rfl : false = false)) (zc (gd_ft (rfl : false = false)) (zc (gd_ft (rfl : false = false)) (zc (gd_ft (rfl : false = false)) (zc (gd_ft (rfl : false = false)) (zc (gd_ft (rfl : false = false)) (zc (gd_ft (rfl : false = false)) (z1 (zc (rfl : false = false) (z7 (zc (eq_of_beq b38) (z2 zt)))))))))))))))))))))))))))))))))))))))))))))))))))))))))))) ?_
  refine T_ret ?_
  obtain rfl := some_inv h
  exact ret_here [(db false)] (by kernel_rfl) (.inl rfl)
  replace h := ite_f b38 h
  rcases Bool.eq_false_or_eq_true (v_1.k == 1) with b39 | b39
  replace h := ite_t b39 h
  refine T_reg [zn, zn, zn, zn, zg, zg, zg, zg, (zd (B false)), zn, zg, zg, zg, zg, (zd (B false)), zn, zn, zn, zn, zg, zg, zg, zg, (zd (B false)), zn, zg, zg, zg, zg, (zd (B false)), zn, zn, zn, zn, zg, zg, zg, (zd (B false)), zn, zg, zg, zg, zg, (zd (B false)), zn, zn, zn, zn, zg, zg, zg, (zd (B false)), zn, zg, zg, zg, zg, zg, zg, zg, (zd (B false)), zn, zn, zn, (zd (I 1))] [2] [1] (mk 68 [(2, (db false))] []) _ (by kernel_rfl) (z8 (zc (gd_ft b2) (zc (gd_ft b2) (zc (gd_ft b2) (zc (gd_ft b2) (z1 (zc b2 (z2 (zc (gd_ft (rfl : false = false)) (zc (gd_ft (rfl : false = false)) (zc (gd_ft (rfl : false = false)) (zc (gd_ft (rfl : false = false)) (z1 (zc (rfl : false = false) (z8 (zc (gd_ft b26) (zc (gd_ft b26) (zc (gd_ft b26) (zc (gd_ft b26) (z1 (zc b26 (z2 (zc (gd_ft (rfl : false = false)) (zc (gd_ft (rfl : false = false)) (zc (gd_ft (rfl : false = false)) (zc (gd_ft (rfl : false = false)) (z1 (zc (rfl : false = false) (z8 (zc (gd_ft b26) (zc (gd_ft b26) (zc (gd_ft b26) (z1 (zc b26 (z2 (zc (gd_ft (rfl : false = false)) (zc (gd_ft (rfl : false = false)) (zc (gd_ft (rfl : false = false)) (zc (gd_ft (rfl : false = false)) (z1 (zc (rfl : false = false) (z8 (zc (gd_ft b26) (zc (gd_ft b26) (zc (gd_ft b26) (z1 (zc b26 (z2 (zc (gd_ft (rfl : false = false)) (zc (gd_ft (rfl : false = false)) (zc (gd_ft (rfl : false = false)) (zc (gd_ft (rfl : false = false)) (zc (gd_ft (rfl : false = false)) (zc (gd_ft (rfl : false = false)) (zc (gd_ft (rfl : false = false)) (z1 (zc (rfl : false = false) (z7 (zc (eq_of_beq b39) (z2 zt)))))))))))))))))))))))))))))))))))))))))))))))))))))))))))) ?_
  refine T_ret ?_
  obtain rfl := some_inv h
  exact ret_here [(db false)] (by kernel_rfl) (.inl rfl)
  replace h := ite_f b39 h
  rcases Bool.eq_false_or_eq_true (v_1.k == 2) with b40 | b40
  replace h := ite_t b40 h
  refine T_reg [zn, zn, zn, zn, zg, zg, zg, zg, (zd (B false)), zn, zg, zg, zg, zg, (zd (B false)), zn, zn, zn, zn, zg, zg, zg, zg, (zd (B false)), zn, zg, zg, zg, zg, (zd (B false)), zn, zn, zn, zn, zg, zg, zg, (zd (B false)), zn, zg, zg, zg, zg, (zd (B false)), zn, zn, zn, zn, zg, zg, zg, (zd (B false)), zn, zg, zg, zg, zg, zg, zg, zg, (zd (B false)), zn, zn, zn, (zd (I 2))] [2] [1] (mk 68 [(2, (db false))] []) _ (by kernel_rfl) (z8 (zc (gd_ft b2) (zc (gd_ft b2) (zc (gd_ft b2) (zc (gd_ft b2) (z1 (zc b2 (z2 (zc (gd_ft (rfl : false = false)) (zc (gd_ft (rfl : false = false)) (zc (gd_ft (rfl : false = false)) (zc (gd_ft (rfl : false = false)) (z1 (zc (rfl : false = false) (z8 (zc (gd_ft b26) (zc (gd_ft b26) (zc (gd_ft b26) (zc (gd_ft b26) (z1 (zc b26 (z2 (zc (gd_ft (rfl : false = false)) (zc (gd_ft (rfl : false = false)) (zc (gd_ft (rfl : false = false)) (zc (gd_ft (rfl : false = false)) (z1 (zc (rfl : false = false) (z8 (zc (gd_ft b26) (zc (gd_ft b26) (zc (gd_ft b26) (z1 (zc b26 (z2 (zc (gd_ft (rfl : false = false)) (zc (gd_ft (rfl : false = false)) (zc (gd_ft (rfl : false = false)) (zc (gd_ft (rfl : false = false)) (z1 (zc (rfl : false = false) (z8 (zc (gd_ft b26) (zc (gd_ft b26) (zc (gd_ft b26) (z1 (zc b26 (z2 (zc (gd_ft (rfl : false = false)) (zc (gd_ft (rfl : false = false)) (zc (gd_ft (rfl : false = false)) (zc (gd_ft (rfl : false = false)) (zc (gd_ft (rfl : false = false)) (zc (gd_ft (rfl : false = false)) (zc (gd_ft (rfl : false = false)) (z1 (zc (rfl : false = false) (z7 (zc (eq_of_beq b40) (z2 zt)))))))))))))))))))))))))))))))))))))))))))))))))))))))))))) ?_
  refine T_ret ?_
  obtain rfl := some_inv h
  exact ret_here [(db false)] (by kernel_rfl) (.inl rfl)
  replace h := ite_f b40 h
  rcases Bool.eq_false_or_eq_true (v_1.k == 3) with b41 | b41
  replace h := ite_t b41 h
  refine T_reg [zn, zn, zn, zn, zg, zg, zg, zg, (zd (B false)), zn, zg, zg, zg, zg, (zd (B false)), zn, zn, zn, zn, zg, zg, zg, zg, (zd (B false)), zn, zg, zg, zg, zg, (zd (B false)), zn, zn, zn, zn, zg, zg, zg, (zd (B false)), zn, zg, zg, zg, zg, (zd (B false)), zn, zn, zn, zn, zg, zg, zg, (zd (B false)), zn, zg, zg, zg, zg, zg, zg, zg, (zd (B false)), zn, zn, zn, (zd (I 3))] [2] [1] (mk 68 [(2, (db false))] []) _ (by kernel_rfl) (z8 (zc (gd_ft b2) (zc (gd_ft b2) (zc (gd_ft b2) (zc (gd_ft b2) (z1 (zc b2 (z2 (zc (gd_ft (rfl : false = false)) (zc (gd_ft (rfl : false = false)) (zc (gd_ft (rfl : false = false)) (zc (gd_ft (rfl : false = false)) (z1 (zc (rfl : false = false) (z8 (zc (gd_ft b26) (zc (gd_ft b26) (zc (gd_ft b26) (zc (gd_ft b26) (z1 (zc b26 (z2 (zc (gd_ft (rfl : false = false)) (zc (gd_ft (rfl : false = false)) (zc (gd_ft (rfl : false = false)) (zc (gd_ft (rfl : false = false)) (z1 (zc (rfl : false = false) (z8 (zc (gd_ft b26) (zc (gd_ft b26) (zc (gd_ft b26) (z1 (zc b26 (z2 (zc (gd_ft (rfl : false = false)) (zc (gd_ft (rfl : false = false)) (zc (gd_ft (rfl : false = false)) (zc (gd_ft (rfl : false = false)) (z1 (zc (rfl : false = false) (z8 (zc (gd_ft b26) (zc (gd_ft b26) (zc (gd_ft b26) (z1 (zc b26 (z2 (zc (gd_ft (rfl : false = false)) (zc (gd_ft (rfl : false = false)) (zc (gd_ft (rfl : false = false)) (zc (gd_ft (rfl : false = false)) (zc (gd_ft (rfl : false = false)) (zc (gd_ft (rfl : false = false)) (zc (gd_ft (rfl : false = false)) (z1 (zc (rfl : false = false) (z7 (zc (eq_of_beq b41) (z2 zt)))))))))))))))))))))))))))))))))))))))))))))))))))))))))))) ?_
  refine T_ret ?_
  obtain rfl := some_inv h
  exact ret_here [(db false)] (by kernel_rfl) (.inl rfl)
  replace h := ite_f b41 h
  obtain ⟨c42, h⟩ := ck_inv h
  refine T_reg [zn, zn, zn, zn, zg, zg, zg, zg, (zd (B false)), zn, zg, zg, zg, zg, (zd (B false)), zn, zn, zn, zn, zg, zg, zg, zg, (zd (B false)), zn, zg, zg, zg, zg, (zd (B false)), zn, zn, zn, zn, zg, zg, zg, (zd (B false)), zn, zg, zg, zg, zg, (zd (B false)), zn, zn, zn, zn, zg, zg, zg, (zd (B false)), zn, zg, zg, zg, zg, zg, zg, zg, (zd (B false)), zn, zn, zn, (zd (I 4))] [2] [1] (mk 68 [(2, (db false))] []) _ (by kernel_rfl) (z8 (zc (gd_ft b2) (zc (gd_ft b2) (zc (gd_ft b2) (zc (gd_ft b2) (z1 (zc b2 (z2 (zc (gd_ft (rfl : false = false)) (zc (gd_ft (rfl : false = false)) (zc (gd_ft (rfl : false = false)) (zc (gd_ft (rfl : false = false)) (z1 (zc (rfl : false = false) (z8 (zc (gd_ft b26) (zc (gd_ft b26) (zc (gd_ft b26) (zc (gd_ft b26) (z1 (zc b26 (z2 (zc (gd_ft (rfl : false = false)) (zc (gd_ft (rfl : false = false)) (zc (gd_ft (rfl : false = false)) (zc (gd_ft (rfl : false = false)) (z1 (zc (rfl : false = false) (z8 (zc (gd_ft b26) (zc (gd_ft b26) (zc (gd_ft b26) (z1 (zc b26 (z2 (zc (gd_ft (rfl : false = false)) (zc (gd_ft (rfl : false = false)) (zc (gd_ft (rfl : false = false)) (zc (gd_ft (rfl : false = false)) (z1 (zc (rfl : false = false) (z8 (zc (gd_ft b26) (zc (gd_ft b26) (zc (gd_ft b26) (z1 (zc b26 (z2 (zc (gd_ft (rfl : false = false)) (zc (gd_ft (rfl : false = false)) (zc (gd_ft (rfl : false = false)) (zc (gd_ft (rfl : false = false)) (zc (gd_ft (rfl : false = false)) (zc (gd_ft (rfl : false = false)) (zc (gd_ft (rfl : false = false)) (z1 (zc (rfl : false = false) (z7 (zc c42 (z2 zt)))))))))))))))))))))))))))))))))))))))))))))))))))))))))))) ?_
  refine T_ret ?_
  obtain rfl := some_inv h
  exact ret_here [(db false)] (by kernel_rfl) (.inl rfl)

end Go.Proofs.YtimalbkjflfdoaaDoor

namespace Go.Proofs.YtimalbkjflfdoaaDoor
open Go.DL
set_option maxRecDepth 100000
set_option maxHeartbeats 4000000
theorem g_codec_formed_s_ret {rc : (Val) → Option (Int × Bool)} (hrc : ∀ {v_1 : Val} {r : Int × Bool}, rc v_1 = some r → Ret Tryd.prog 28 [(ndcVal v_1)] (.tup [(I r.1), (B (r.2))])) {v_1 : Val} {r : Int × Bool} (h : g_codec_formed_s rc v_1 = some r) : Ret Tryd.prog 28 [(ndcVal v_1)] (.tup [(I r.1), (B (r.2))]) := by
  refine Ret.of_T Tryd.func28 (by kernel_rfl) rfl ?_
  refine T_turn [] [0] [] (mk 64 [(0, (.agg (qVal v_1)))] []) (by kernel_rfl) ?_
  refine T_reg [] [1, 2] [] (mk 64 [(1, (rf 1 0)), (2, (di 0))] [(1, (.var (qVal v_1)))]) _ (by kernel_rfl) (z6 zt) ?_
  refine T_seq ?_
  refine T_seqJ (α := Bool) (fun (v_2 : Bool) => (mk 64 [(1, (rf 1 0)), (2, (di 0)), (21, (db (v_2)))] [(1, (.var (qVal v_1)))])) (fun (v_2 : Bool) => g_codec_formed_s_j1 v_1 rc v_2 = some r) (fun v_2 h => ?_) ?_
  refine T_cond (v_2) (by kernel_rfl) (fun b3 => ?_) (fun b3 => ?_)
  replace h := ite_t b3 h
  refine T_reg [] [2, 3] [1] (mk 64 [(2, (di 0)), (3, (db false))] []) _ (by kernel_rfl) (z4 zt) ?_
  refine T_ret ?_
  obtain rfl := some_inv h
  exact ret_here [(di 0), (db false)] (by kernel_rfl) ⟨(.inl rfl), (.inl rfl), trivial⟩
  replace h := ite_f b3 h
  refine T_skip ?_
  refine T_seqJ (α := Unit) (fun (_ : Unit) => (mk 64 [(1, (rf 1 0)), (2, (di 0))] [(1, (.var (qVal v_1)))])) (fun (_ : Unit) => g_codec_formed_s_j2 v_1 rc = some r) (fun v h => ?_) ?_
  refine T_seq ?_
  refine T_reg [] [1, 2, 43] [] (mk 64 [(1, (rf 1 0)), (2, (di 0)), (43, (db (decide (v_1.k < 3))))] [(1, (.var (qVal v_1)))]) _ (by kernel_rfl) (z6 zt) ?_
  refine T_cond (decide (v_1.k < 3)) (by kernel_rfl) (fun b4 => ?_) (fun b4 => ?_)
  replace h := ite_t b4 h
  refine T_reg [] [2, 3] [1] (mk 64 [(2, (di 0)), (3, (db true))] []) _ (by kernel_rfl) (z4 zt) ?_
  refine T_ret ?_
  obtain rfl := some_inv h
  exact ret_here [(di 0), (db true)] (by kernel_rfl) ⟨(.inl rfl), (.inl rfl), trivial⟩
  replace h := ite_f b4 h
  refine T_skip ?_
  refine T_seqJ (α := Int) (fun (depth_5 : Int) => (mk 64 [(2, (di depth_5))] [])) (fun (depth_5 : Int) => g_codec_formed_s_j3 depth_5 = some r) (fun depth_5 h => ?_) ?_
  obtain ⟨c6, h⟩ := ckI_inv h
  refine T_reg [zn, (zd (I (depth_5 + 1)))] [2, 3] [] (mk 64 [(2, (di (depth_5 + 1))), (3, (db true))] []) _ (by kernel_rfl) (z3 (zc c6 (z4 zt))) ?_
  refine T_ret ?_
  obtain rfl := some_inv h
  exact ret_here [(di (depth_5 + 1)), (db true)] (by kernel_rfl) ⟨(.inl rfl), (.inl rfl), trivial⟩
  refine T_reg [zn, zn, (zd (I ((v_1.l.length : Nat) : Int)))] [2, 45, 46, 47] [1] (mk 64 [(2, (di 0)), (45, (dt (.sl 5 (v_1.l.map encVal)))), (46, (di ((v_1.l.length : Nat) : Int))), (47, (di 0))] []) _ (by kernel_rfl) (z5 (zc (len_s encVal v_1.l) (z2 zt))) ?_
  refine T_block ?_
  refine T_arr [] [2, 45, 46, 47] [] [] _ (by kernel_rfl) (T_loopO (σ := Int × Nat) (fun ((depth_7, v_8) : Int × Nat) => (mk 64 [(2, (di depth_7)), (45, (dt (.sl 5 (v_1.l.map encVal)))), (46, (di ((v_1.l.length : Nat) : Int))), (47, (di ((v_8 : Nat) : Int)))] [])) (g_codec_formed_s_l4 v_1 rc) (0, 0) h (fun v y1 hy1 h => ?_))
  obtain ⟨depth_7, v_8⟩ := v
  refine T_reg [] [2, 45, 46, 47, 48] [] (mk 64 [(2, (di depth_7)), (45, (dt (.sl 5 (v_1.l.map encVal)))), (46, (di ((v_1.l.length : Nat) : Int))), (47, (di ((v_8 : Nat) : Int))), (48, (db (decide (((v_8 : Nat) : Int) < ((v_1.l.length : Nat) : Int)))))] []) _ (by kernel_rfl) (z2 zt) ?_
  refine T_seq ?_
  refine T_cond (decide (((v_8 : Nat) : Int) < ((v_1.l.length : Nat) : Int))) (by kernel_rfl) (fun b11 => ?_) (fun b11 => ?_)
  replace h := ite_t b11 h
  refine T_skip ?_
  refine T_seq ?_
  refine T_block ?_
  obtain ⟨x_12, e13, e14, e15, h⟩ := gn_invE encVal ndcVal encVal_nd h
  refine T_reg [(zd (ndcVal x_12))] [2, 6, 45, 46, 47] [] (mk 64 [(2, (di depth_7)), (6, (rf 6 0)), (45, (dt (.sl 5 (v_1.l.map encVal)))), (46, (di ((v_1.l.length : Nat) : Int))), (47, (di ((v_8 : Nat) : Int)))] [(6, (.var (qVal x_12)))]) _ (by kernel_rfl) (z1 (zc e13 (z6 zt))) ?_
  obtain ⟨r_16, e17, h⟩ := bd_inv h
  refine T_reg [zn, (zd (.tup [(I r_16.1), (B (r_16.2))]))] [2, 7, 8, 45, 46, 47] [6] (mk 64 [(2, (di depth_7)), (7, (di r_16.1)), (8, (db (r_16.2))), (45, (dt (.sl 5 (v_1.l.map encVal)))), (46, (di ((v_1.l.length : Nat) : Int))), (47, (di ((v_8 : Nat) : Int)))] []) _ (by kernel_rfl) (z3 (zc (hrc e17) (z8 (z2 zt)))) ?_
  refine T_seq ?_
  refine T_reg [] [2, 7, 45, 46, 47, 57] [] (mk 64 [(2, (di depth_7)), (7, (di r_16.1)), (45, (dt (.sl 5 (v_1.l.map encVal)))), (46, (di ((v_1.l.length : Nat) : Int))), (47, (di ((v_8 : Nat) : Int))), (57, (db (!(r_16.2))))] []) _ (by kernel_rfl) (z4 zt) ?_
  refine T_cond (!(r_16.2)) (by kernel_rfl) (fun b18 => ?_) (fun b18 => ?_)
  replace h := ite_t b18 h
  refine T_reg [] [2, 3] [] (mk 64 [(2, (di 0)), (3, (db false))] []) _ (by kernel_rfl) (z4 zt) ?_
  refine T_ret ?_
  replace h := up_inv h hy1
  obtain rfl := some_inv h
  exact ret_here [(di 0), (db false)] (by kernel_rfl) ⟨(.inl rfl), (.inl rfl), trivial⟩
  replace h := ite_f b18 h
  refine T_skip ?_
  refine T_regE [] (mk 64 [(2, (di (if r_16.1 > depth_7 then r_16.1 else depth_7))), (7, (di r_16.1)), (45, (dt (.sl 5 (v_1.l.map encVal)))), (46, (di ((v_1.l.length : Nat) : Int))), (47, (di ((v_8 : Nat) : Int))), (57, (db (!(r_16.2)))), (58, (di depth_7)), (59, (di r_16.1)), (60, (di (if r_16.1 > depth_7 then r_16.1 else depth_7)))] []) _ (by kernel_rfl) (z8 zt) ?_
  obtain ⟨c19, h⟩ := ckI_inv h
  exact T_regJ [(zd (I ((v_8 + 1 : Nat) : Int)))] [] [2, 45, 46, 47] [] [] _ _ (by kernel_rfl) (z1 (zc c19 (z2 zt))) (fun s hs => Exists.intro ((if r_16.1 > depth_7 then r_16.1 else depth_7), v_8 + 1) (And.intro h hs))
  replace h := ite_f b11 h
  refine T_exit ?_
  replace h := up_inv h hy1
  exact Exists.intro depth_7 (And.intro h (arr [] [2] [] [] (by kernel_rfl)))
  refine T_reg [] [1, 2, 4] [] (mk 64 [(1, (rf 1 0)), (2, (di 0)), (4, (di 1))] [(1, (.var (qVal v_1)))]) _ (by kernel_rfl) (z2 zt) ?_
  refine T_block ?_
  refine T_arr [] [1, 2, 4] [] [1] _ (by kernel_rfl) (T_loopO (σ := Nat) (fun (i_20 : Nat) => (mk 64 [(1, (rf 1 0)), (2, (di 0)), (4, (di ((i_20 : Nat) : Int)))] [(1, (.var (qVal v_1)))])) (g_codec_formed_s_l5 v_1 rc) 1 h (fun i_20 y1 hy1 h => ?_))
  refine T_seq ?_
  refine T_reg [zn, zn, zn, (zd (I ((v_1.ks.length : Nat) : Int)))] [1, 2, 4, 26] [] (mk 64 [(1, (rf 1 0)), (2, (di 0)), (4, (di ((i_20 : Nat) : Int))), (26, (db (decide (((i_20 : Nat) : Int) < ((v_1.ks.length : Nat) : Int)))))] [(1, (.var (qVal v_1)))]) _ (by kernel_rfl) (z7 (zc (len_s elStr v_1.ks) (z2 zt))) ?_
  refine T_cond (decide (((i_20 : Nat) : Int) < ((v_1.ks.length : Nat) : Int))) (by kernel_rfl) (fun b22 => ?_) (fun b22 => ?_)
  replace h := ite_t b22 h
  refine T_skip ?_
  refine T_seq ?_
  refine T_block ?_
  obtain ⟨c23, h⟩ := ckI_inv h
  obtain ⟨x_24, e25, e26, e27, h⟩ := gt_inv elStr h
  obtain ⟨x_28, e29, e30, e31, h⟩ := gn_inv elStr h
  refine T_regD 12 (hl 10 [(3, (zd (I (((i_20 : Nat) : Int) - 1)))), (4, (zd (.str x_24))), (9, (zd (.str x_28)))]) [1, 2, 4, 40] [] (mk 64 [(1, (rf 1 0)), (2, (di 0)), (4, (di ((i_20 : Nat) : Int))), (40, (db (!(Op.bytesLess x_24 x_28))))] [(1, (.var (qVal v_1)))]) _ (by kernel_rfl) (by kernel_rfl) (by kernel_rfl) (zc (z7 (zc c23 (z1 (zc e25 (z8 (z1 (zc e29 (z4 zt)))))))) zt) ?_
  refine T_cond (!(Op.bytesLess x_24 x_28)) (by kernel_rfl) (fun b32 => ?_) (fun b32 => ?_)
  replace h := ite_t b32 h
  refine T_reg [] [2, 3] [1] (mk 64 [(2, (di 0)), (3, (db false))] []) _ (by kernel_rfl) (z4 zt) ?_
  refine T_ret ?_
  replace h := up_inv h hy1
  obtain rfl := some_inv h
  exact ret_here [(di 0), (db false)] (by kernel_rfl) ⟨(.inl rfl), (.inl rfl), trivial⟩
  replace h := ite_f b32 h
  refine T_skip ?_
  obtain ⟨c33, h⟩ := ckI_inv h
  exact T_regJ [zn, (zd (I ((i_20 + 1 : Nat) : Int)))] [] [1, 2, 4] [] [1] _ _ (by kernel_rfl) (z3 (zc c33 (z2 zt))) (fun s hs => Exists.intro (i_20 + 1) (And.intro h hs))
  replace h := ite_f b22 h
  refine T_exit ?_
  replace h := up_inv h hy1
  exact Exists.intro () (And.intro h (arr [] [1, 2] [] [1] (by kernel_rfl)))
  rcases Bool.eq_false_or_eq_true (decide (v_1.k < 1)) with b34 | b34
  replace h := ite_t b34 h
  exact T_regJ [zn, zn, zn, zn, zg, zg, zg, (zd (B true)), zn, zg, zg, zg, (zd (B true))] [] [1, 2, 21] [] [1] _ _ (by kernel_rfl) (z8 (zc (gd_tf b34) (zc (gd_tf b34) (zc (gd_tf b34) (z1 (zc b34 (z2 (zc (gd_tf (rfl : true = true)) (zc (gd_tf (rfl : true = true)) (zc (gd_tf (rfl : true = true)) (z1 (zc (rfl : true = true) zt)))))))))))) (fun s hs => Exists.intro true (And.intro h hs))
  replace h := ite_f b34 h
  rcases Bool.eq_false_or_eq_true (decide (v_1.k > 4)) with b35 | b35
  replace h := ite_t b35 h
  exact T_regJ [zn, zn, zn, zn, zn, zn, zn, (zd (B false)), zn, zg, zg, zg, (zd (B true))] [] [1, 2, 21] [] [1] _ _ (by kernel_rfl) (z8 (zc (gd_ff b34) (z1 (zc (gd_ff b34) (z1 (zc (gd_ff b34) (z2 (zc b34 (z2 (zc (gd_tf b35) (zc (gd_tf b35) (zc (gd_tf b35) (z1 (zc b35 zt)))))))))))))) (fun s hs => Exists.intro true (And.intro h hs))
  replace h := ite_f b35 h
  obtain ⟨r_36, e37, h⟩ := bd_inv h
  exact T_regJ (hl 13 [(7, (zd (B false))), (10, (zd (B (r_36)))), (12, (zd (B false)))]) [] [1, 2, 21] [] [1] _ _ (by kernel_rfl) (z8 (zc (gd_ff b34) (z1 (zc (gd_ff b34) (z1 (zc (gd_ff b34) (z2 (zc b34 (z2 (zc (gd_ff b35) (z1 (zc (gd_ff b35) (zc (g_codec_empty_ret e37) (zc (gd_ff b35) (z2 (zc b35 zt)))))))))))))))) (fun s hs => Exists.intro (!(r_36)) (And.intro h hs))
theorem g_codec_formed_ret : ∀ {fu : Nat} {v_1 : Val} {r : Int × Bool}, g_codec_formed fu v_1 = some r → Ret Tryd.prog 28 [(ndcVal v_1)] (.tup [(I r.1), (B (r.2))])
  | 0, _, _, h => by cases h
  | fu + 1, _, _, h => g_codec_formed_s_ret (fun {_} {_} h => g_codec_formed_ret h) h

theorem g_codec_Check_ret {v_1 : Val} {r : Int} (h : g_codec_Check v_1 = some r) : Ret Tryd.prog 14 [(ndcVal v_1)] (I r) := by
  refine Ret.of_T Tryd.func14 (by kernel_rfl) rfl ?_
  refine T_turn [] [0] [] (mk 16 [(0, (.agg (qVal v_1)))] []) (by kernel_rfl) ?_
  refine T_reg [] [1] [] (mk 16 [(1, (rf 1 0))] [(1, (.var (qVal v_1)))]) _ (by kernel_rfl) (z4 zt) ?_
  obtain ⟨r_2, e3, h⟩ := bd_inv h
  refine T_reg [zn, (zd (.tup [(I r_2.1), (B (r_2.2))]))] [3, 4] [1] (mk 16 [(3, (di r_2.1)), (4, (db (r_2.2)))] []) _ (by kernel_rfl) (z3 (zc (g_codec_formed_ret e3) (z8 (z2 zt)))) ?_
  refine T_seq ?_
  refine T_block ?_
  refine T_reg [] [3, 10] [] (mk 16 [(3, (di r_2.1)), (10, (db (!(r_2.2))))] []) _ (by kernel_rfl) (z6 zt) ?_
  refine T_cond (!(r_2.2)) (by kernel_rfl) (fun b4 => ?_) (fun b4 => ?_)
  replace h := ite_t b4 h
  refine T_reg [] [2] [] (mk 16 [(2, (di 1))] []) _ (by kernel_rfl) (z2 zt) ?_
  refine T_ret ?_
  obtain rfl := some_inv h
  exact ret_here [(di 1)] (by kernel_rfl) (.inl rfl)
  replace h := ite_f b4 h
  refine T_reg [] [13] [] (mk 16 [(13, (db (decide (r_2.1 > 16))))] []) _ (by kernel_rfl) (z6 zt) ?_
  refine T_cond (decide (r_2.1 > 16)) (by kernel_rfl) (fun b5 => ?_) (fun b5 => ?_)
  replace h := ite_t b5 h
  refine T_reg [] [2] [] (mk 16 [(2, (di 2))] []) _ (by kernel_rfl) (z2 zt) ?_
  refine T_ret ?_
  obtain rfl := some_inv h
  exact ret_here [(di 2)] (by kernel_rfl) (.inl rfl)
  replace h := ite_f b5 h
  refine T_skip ?_
  refine T_reg [] [2] [] (mk 16 [(2, (di 0))] []) _ (by kernel_rfl) (z2 zt) ?_
  refine T_ret ?_
  obtain rfl := some_inv h
  exact ret_here [(di 0)] (by kernel_rfl) (.inl rfl)

theorem g_ref02_increasing_ret {l_1 : List ((List UInt8))} {r : Bool} (h : g_ref02_increasing l_1 = some r) : Ret Tryd.prog 48 [(.sl 1 (l_1.map elStr))] (B (r)) := by
  refine Ret.of_T Tryd.func48 (by kernel_rfl) rfl ?_
  refine T_turn [] [0] [] (mk 20 [(0, (dt (.sl 1 (l_1.map elStr))))] []) (by kernel_rfl) ?_
  refine T_reg [] [0] [] (mk 20 [(0, (dt (.sl 1 (l_1.map elStr))))] []) _ (by kernel_rfl) (z2 zt) ?_
  refine T_seqJ (α := Unit) (fun (_ : Unit) => (mk 20 [] [])) (fun (_ : Unit) => g_ref02_increasing_j1 = some r) (fun v h => ?_) ?_
  refine T_reg [] [2] [] (mk 20 [(2, (db true))] []) _ (by kernel_rfl) (z2 zt) ?_
  refine T_ret ?_
  obtain rfl := some_inv h
  exact ret_here [(db true)] (by kernel_rfl) (.inl rfl)
  refine T_reg [] [0, 3] [] (mk 20 [(0, (dt (.sl 1 (l_1.map elStr)))), (3, (di 1))] []) _ (by kernel_rfl) (z2 zt) ?_
  refine T_block ?_
  refine T_arr [] [0, 3] [] [] _ (by kernel_rfl) (T_loopO (σ := Nat) (fun (i_2 : Nat) => (mk 20 [(0, (dt (.sl 1 (l_1.map elStr)))), (3, (di ((i_2 : Nat) : Int)))] [])) (g_ref02_increasing_l2 l_1) 1 h (fun i_2 y1 hy1 h => ?_))
  refine T_seq ?_
  refine T_reg [zn, zn, (zd (I ((l_1.length : Nat) : Int)))] [0, 3, 7] [] (mk 20 [(0, (dt (.sl 1 (l_1.map elStr)))), (3, (di ((i_2 : Nat) : Int))), (7, (db (decide (((i_2 : Nat) : Int) < ((l_1.length : Nat) : Int)))))] []) _ (by kernel_rfl) (z5 (zc (len_s elStr l_1) (z2 zt))) ?_
  refine T_cond (decide (((i_2 : Nat) : Int) < ((l_1.length : Nat) : Int))) (by kernel_rfl) (fun b4 => ?_) (fun b4 => ?_)
  replace h := ite_t b4 h
  refine T_skip ?_
  refine T_seq ?_
  refine T_block ?_
  obtain ⟨c5, h⟩ := ckI_inv h
  obtain ⟨x_6, e7, e8, e9, h⟩ := gt_inv elStr h
  obtain ⟨x_10, e11, e12, e13, h⟩ := gn_inv elStr h
  refine T_regD 10 [zn, zn, (zd (I (((i_2 : Nat) : Int) - 1))), (zd (.str x_6)), zn, zn, zn, (zd (.str x_10))] [0, 3, 19] [] (mk 20 [(0, (dt (.sl 1 (l_1.map elStr)))), (3, (di ((i_2 : Nat) : Int))), (19, (db (!(Op.bytesLess x_6 x_10))))] []) _ (by kernel_rfl) (by kernel_rfl) (by kernel_rfl) (zc (z5 (zc c5 (z1 (zc e7 (z7 (zc e11 (z4 zt))))))) zt) ?_
  refine T_cond (!(Op.bytesLess x_6 x_10)) (by kernel_rfl) (fun b14 => ?_) (fun b14 => ?_)
  replace h := ite_t b14 h
  refine T_reg [] [2] [] (mk 20 [(2, (db false))] []) _ (by kernel_rfl) (z2 zt) ?_
  refine T_ret ?_
  replace h := up_inv h hy1
  obtain rfl := some_inv h
  exact ret_here [(db false)] (by kernel_rfl) (.inl rfl)
  replace h := ite_f b14 h
  refine T_skip ?_
  obtain ⟨c15, h⟩ := ckI_inv h
  exact T_regJ [zn, (zd (I ((i_2 + 1 : Nat) : Int)))] [] [0, 3] [] [] _ _ (by kernel_rfl) (z3 (zc c15 (z2 zt))) (fun s hs => Exists.intro (i_2 + 1) (And.intro h hs))
  replace h := ite_f b4 h
  refine T_exit ?_
  replace h := up_inv h hy1
  exact Exists.intro () (And.intro h (arr [] [] [] [] (by kernel_rfl)))

theorem g_ref02_Formed_s_ret {rc : (Val) → Option (Bool)} (hrc : ∀ {v_1 : Val} {r : Bool}, rc v_1 = some r → Ret Tryd.prog 29 [(ndcVal v_1)] (B (r))) {v_1 : Val} {r : Bool} (h : g_ref02_Formed_s rc v_1 = some r) : Ret Tryd.prog 29 [(ndcVal v_1)] (B (r)) := by
  refine Ret.of_T Tryd.func29 (by kernel_rfl) rfl ?_
  refine T_turn [] [0] [] (mk 83 [(0, (.agg (qVal v_1)))] []) (by kernel_rfl) ?_
  refine T_reg [] [1] [] (mk 83 [(1, (rf 1 0))] [(1, (.var (qVal v_1)))]) _ (by kernel_rfl) (z4 zt) ?_
  refine T_seqJ (α := Unit) (fun (_ : Unit) => (mk 83 [(1, (rf 1 0))] [(1, (.var (qVal v_1)))])) (fun (_ : Unit) => g_ref02_Formed_s_j1 v_1 rc = some r) (fun v h => ?_) ?_
  refine T_seqJ (α := Unit) (fun (_ : Unit) => (mk 83 [(1, (rf 1 0))] [(1, (.var (qVal v_1)))])) (fun (_ : Unit) => g_ref02_Formed_s_j2 v_1 = some r) (fun v h => ?_) ?_
  rcases Bool.eq_false_or_eq_true (v_1.n == 0) with b2 | b2
  replace h := ite_t b2 h
  refine T_reg (hl 8 [(7, (zd (B true)))]) [2] [1] (mk 83 [(2, (db (v_1.s == ([] : List UInt8))))] []) _ (by kernel_rfl) (z8 (zc (gd_tt b2) (z1 (zc (gd_tt b2) (z1 (zc (gd_tt b2) (z2 (zc b2 (z2 zt))))))))) ?_
  refine T_ret ?_
  obtain rfl := some_inv h
  exact ret_here [(db (v_1.s == ([] : List UInt8)))] (by kernel_rfl) (.inl rfl)
  replace h := ite_f b2 h
  refine T_reg [zn, zn, zn, zn, zg, zg, zg, (zd (B false))] [2] [1] (mk 83 [(2, (db false))] []) _ (by kernel_rfl) (z8 (zc (gd_ft b2) (zc (gd_ft b2) (zc (gd_ft b2) (z1 (zc b2 (z2 zt))))))) ?_
  refine T_ret ?_
  obtain rfl := some_inv h
  exact ret_here [(db false)] (by kernel_rfl) (.inl rfl)
  refine T_reg [] [1, 3] [] (mk 83 [(1, (rf 1 0)), (3, (di 0))] [(1, (.var (qVal v_1)))]) _ (by kernel_rfl) (z2 zt) ?_
  refine T_block ?_
  refine T_arr [] [1, 3] [] [1] _ (by kernel_rfl) (T_loopO (σ := Nat) (fun (i_3 : Nat) => (mk 83 [(1, (rf 1 0)), (3, (di ((i_3 : Nat) : Int)))] [(1, (.var (qVal v_1)))])) (g_ref02_Formed_s_l3 v_1 rc) 0 h (fun i_3 y1 hy1 h => ?_))
  refine T_seq ?_
  refine T_reg [zn, zn, zn, (zd (I ((v_1.l.length : Nat) : Int)))] [1, 3, 65] [] (mk 83 [(1, (rf 1 0)), (3, (di ((i_3 : Nat) : Int))), (65, (db (decide (((i_3 : Nat) : Int) < ((v_1.l.length : Nat) : Int)))))] [(1, (.var (qVal v_1)))]) _ (by kernel_rfl) (z7 (zc (len_s encVal v_1.l) (z2 zt))) ?_
  refine T_cond (decide (((i_3 : Nat) : Int) < ((v_1.l.length : Nat) : Int))) (by kernel_rfl) (fun b5 => ?_) (fun b5 => ?_)
  replace h := ite_t b5 h
  refine T_skip ?_
  refine T_seq ?_
  refine T_block ?_
  obtain ⟨x_6, e7, e8, e9, h⟩ := gn_invE encVal ndcVal encVal_nd h
  obtain ⟨r_10, e11, h⟩ := bd_inv h
  refine T_reg [zn, zn, zn, (zd (ndcVal x_6)), zn, (zd (B (r_10)))] [1, 3, 74] [] (mk 83 [(1, (rf 1 0)), (3, (di ((i_3 : Nat) : Int))), (74, (db (!(r_10))))] [(1, (.var (qVal v_1)))]) _ (by kernel_rfl) (z7 (zc e7 (z3 (zc (hrc e11) (z2 zt))))) ?_
  refine T_cond (!(r_10)) (by kernel_rfl) (fun b12 => ?_) (fun b12 => ?_)
  replace h := ite_t b12 h
  refine T_reg [] [2] [1] (mk 83 [(2, (db false))] []) _ (by kernel_rfl) (z2 zt) ?_
  refine T_ret ?_
  replace h := up_inv h hy1
  obtain rfl := some_inv h
  exact ret_here [(db false)] (by kernel_rfl) (.inl rfl)
  replace h := ite_f b12 h
  refine T_skip ?_
  obtain ⟨c13, h⟩ := ckI_inv h
  exact T_regJ [zn, (zd (I ((i_3 + 1 : Nat) : Int)))] [] [1, 3] [] [1] _ _ (by kernel_rfl) (z3 (zc c13 (z2 zt))) (fun s hs => Exists.intro (i_3 + 1) (And.intro h hs))
  replace h := ite_f b5 h
  refine T_exit ?_
  replace h := up_inv h hy1
  exact Exists.intro () (And.intro h (arr [] [1] [] [1] (by kernel_rfl)))
  refine T_reg [] [1, 5] [] (mk 83 [(1, (rf 1 0)), (5, (di v_1.k))] [(1, (.var (qVal v_1)))]) _ (by kernel_rfl) (z4 zt) ?_
  refine T_block ?_
  refine T_reg [] [1, 5, 6] [] (mk 83 [(1, (rf 1 0)), (5, (di v_1.k)), (6, (db (v_1.k == 1)))] [(1, (.var (qVal v_1)))]) _ (by kernel_rfl) (z4 zt) ?_
  refine T_cond (v_1.k == 1) (by kernel_rfl) (fun b14 => ?_) (fun b14 => ?_)
  replace h := ite_t b14 h
  rcases Bool.eq_false_or_eq_true (v_1.s == ([] : List UInt8)) with b15 | b15
  replace h := ite_t b15 h
  rcases Bool.eq_false_or_eq_true (((v_1.l.length : Nat) : Int) == 0) with b16 | b16
  replace h := ite_t b16 h
  refine T_reg (hl 15 [(6, (zd (I ((v_1.l.length : Nat) : Int)))), (8, (zd (B true))), (12, (zd (I ((v_1.ks.length : Nat) : Int)))), (14, (zd (B true)))]) [2] [1] (mk 83 [(2, (db (((v_1.ks.length : Nat) : Int) == 0)))] []) _ (by kernel_rfl) (z8 (zc (gd_tt b15) (z1 (zc (gd_tt b15) (z1 (zc (gd_tt b15) (zc (len_s encVal v_1.l) (zc (gd_tt b15) (z2 (zc b15 (z2 (zc (gd_tt b16) (z1 (zc (gd_tt b16) (z1 (zc (gd_tt b16) (zc (len_s elStr v_1.ks) (zc (gd_tt b16) (z2 (zc b16 (z2 zt))))))))))))))))))))) ?_
  refine T_ret ?_
  obtain rfl := some_inv h
  exact ret_here [(db (((v_1.ks.length : Nat) : Int) == 0))] (by kernel_rfl) (.inl rfl)
  replace h := ite_f b16 h
  refine T_reg [zn, zn, zn, zn, zn, zn, (zd (I ((v_1.l.length : Nat) : Int))), zn, (zd (B true)), zn, zg, zg, zg, zg, (zd (B false))] [2] [1] (mk 83 [(2, (db false))] []) _ (by kernel_rfl) (z8 (zc (gd_tt b15) (z1 (zc (gd_tt b15) (z1 (zc (gd_tt b15) (zc (len_s encVal v_1.l) (zc (gd_tt b15) (z2 (zc b15 (z2 (zc (gd_ft b16) (zc (gd_ft b16) (zc (gd_ft b16) (zc (gd_ft b16) (z1 (zc b16 (z2 zt)))))))))))))))))) ?_
  refine T_ret ?_
  obtain rfl := some_inv h
  exact ret_here [(db false)] (by kernel_rfl) (.inl rfl)
  replace h := ite_f b15 h
  refine T_reg [zn, zn, zn, zn, zg, zg, zg, zg, (zd (B false)), zn, zg, zg, zg, zg, (zd (B false))] [2] [1] (mk 83 [(2, (db false))] []) _ (by kernel_rfl) (z8 (zc (gd_ft b15) (zc (gd_ft b15) (zc (gd_ft b15) (zc (gd_ft b15) (z1 (zc b15 (z2 (zc (gd_ft (rfl : false = false)) (zc (gd_ft (rfl : false = false)) (zc (gd_ft (rfl : false = false)) (zc (gd_ft (rfl : false = false)) (z1 (zc (rfl : false = false) (z2 zt))))))))))))))) ?_
  refine T_ret ?_
  obtain rfl := some_inv h
  exact ret_here [(db false)] (by kernel_rfl) (.inl rfl)
  replace h := ite_f b14 h
  refine T_reg [] [1, 5, 23] [] (mk 83 [(1, (rf 1 0)), (5, (di v_1.k)), (23, (db (v_1.k == 2)))] [(1, (.var (qVal v_1)))]) _ (by kernel_rfl) (z4 zt) ?_
  refine T_cond (v_1.k == 2) (by kernel_rfl) (fun b17 => ?_) (fun b17 => ?_)
  replace h := ite_t b17 h
  rcases Bool.eq_false_or_eq_true (v_1.n == 0) with b18 | b18
  replace h := ite_t b18 h
  rcases Bool.eq_false_or_eq_true (((v_1.l.length : Nat) : Int) == 0) with b19 | b19
  replace h := ite_t b19 h
  refine T_reg (hl 15 [(6, (zd (I ((v_1.l.length : Nat) : Int)))), (8, (zd (B true))), (12, (zd (I ((v_1.ks.length : Nat) : Int)))), (14, (zd (B true)))]) [2] [1] (mk 83 [(2, (db (((v_1.ks.length : Nat) : Int) == 0)))] []) _ (by kernel_rfl) (z8 (zc (gd_tt b18) (z1 (zc (gd_tt b18) (z1 (zc (gd_tt b18) (zc (len_s encVal v_1.l) (zc (gd_tt b18) (z2 (zc b18 (z2 (zc (gd_tt b19) (z1 (zc (gd_tt b19) (z1 (zc (gd_tt b19) (zc (len_s elStr v_1.ks) (zc (gd_tt b19) (z2 (zc b19 (z2 zt))))))))))))))))))))) ?_
  refine T_ret ?_
  obtain rfl := some_inv h
  exact ret_here [(db (((v_1.ks.length : Nat) : Int) == 0))] (by kernel_rfl) (.inl rfl)
  replace h := ite_f b19 h
  refine T_reg [zn, zn, zn, zn, zn, zn, (zd (I ((v_1.l.length : Nat) : Int))), zn, (zd (B true)), zn, zg, zg, zg, zg, (zd (B false))] [2] [1] (mk 83 [(2, (db false))] []) _ (by kernel_rfl) (z8 (zc (gd_tt b18) (z1 (zc (gd_tt b18) (z1 (zc (gd_tt b18) (zc (len_s encVal v_1.l) (zc (gd_tt b18) (z2 (zc b18 (z2 (zc (gd_ft b19) (zc (gd_ft b19) (zc (gd_ft b19) (zc (gd_ft b19) (z1 (zc b19 (z2 zt)))))))))))))))))) ?_
  refine T_ret ?_
  obtain rfl := some_inv h
  exact ret_here [(db false)] (by kernel_rfl) (.inl rfl)
  replace h := ite_f b18 h
  refine T_reg [zn, zn, zn, zn, zg, zg, zg, zg, (zd (B false)), zn, zg, zg, zg, zg, (zd (B false))] [2] [1] (mk 83 [(2, (db false))] []) _ (by kernel_rfl) (z8 (zc (gd_ft b18) (zc (gd_ft b18) (zc (gd_ft b18) (zc (gd_ft b18) (z1 (zc b18 (z2 (zc (gd_ft (rfl : false = false)) (zc (gd_ft (rfl : false = false)) (zc (gd_ft (rfl : false = false)) (zc (gd_ft (rfl : false = false)) (z1 (zc (rfl : false = false) (z2 zt))))))))))))))) ?_
  refine T_ret ?_
  obtain rfl := some_inv h
  exact ret_here [(db false)] (by kernel_rfl) (.inl rfl)
  replace h := ite_f b17 h
  refine T_reg [] [1, 5, 40] [] (mk 83 [(1, (rf 1 0)), (5, (di v_1.k)), (40, (db (v_1.k == 3)))] [(1, (.var (qVal v_1)))]) _ (by kernel_rfl) (z4 zt) ?_
  refine T_cond (v_1.k == 3) (by kernel_rfl) (fun b20 => ?_) (fun b20 => ?_)
  replace h := ite_t b20 h
  refine T_reg [zn, zn, (zd (I ((v_1.ks.length : Nat) : Int)))] [1, 45] [] (mk 83 [(1, (rf 1 0)), (45, (db (decide (((v_1.ks.length : Nat) : Int) > 0))))] [(1, (.var (qVal v_1)))]) _ (by kernel_rfl) (z5 (zc (len_s elStr v_1.ks) (z2 zt))) ?_
  refine T_cond (decide (((v_1.ks.length : Nat) : Int) > 0)) (by kernel_rfl) (fun b21 => ?_) (fun b21 => ?_)
  replace h := ite_t b21 h
  refine T_reg [] [2] [1] (mk 83 [(2, (db false))] []) _ (by kernel_rfl) (z2 zt) ?_
  refine T_ret ?_
  obtain rfl := some_inv h
  exact ret_here [(db false)] (by kernel_rfl) (.inl rfl)
  replace h := ite_f b21 h
  refine T_skip ?_
  exact Exists.intro () (And.intro h (arr [] [1] [] [1] (by kernel_rfl)))
  replace h := ite_f b20 h
  refine T_reg [] [1, 46] [] (mk 83 [(1, (rf 1 0)), (46, (db (v_1.k == 4)))] [(1, (.var (qVal v_1)))]) _ (by kernel_rfl) (z4 zt) ?_
  refine T_cond (v_1.k == 4) (by kernel_rfl) (fun b22 => ?_) (fun b22 => ?_)
  replace h := ite_t b22 h
  refine T_seqJ (α := Bool) (fun (v_23 : Bool) => (mk 83 [(1, (rf 1 0)), (60, (db (v_23)))] [(1, (.var (qVal v_1)))])) (fun (v_23 : Bool) => g_ref02_Formed_s_j4 v_1 rc v_23 = some r) (fun v_23 h => ?_) ?_
  refine T_cond (v_23) (by kernel_rfl) (fun b24 => ?_) (fun b24 => ?_)
  replace h := ite_t b24 h
  refine T_reg [] [2] [1] (mk 83 [(2, (db false))] []) _ (by kernel_rfl) (z2 zt) ?_
  refine T_ret ?_
  obtain rfl := some_inv h
  exact ret_here [(db false)] (by kernel_rfl) (.inl rfl)
  replace h := ite_f b24 h
  refine T_skip ?_
  exact Exists.intro () (And.intro h (arr [] [1] [] [1] (by kernel_rfl)))
  rcases Bool.eq_false_or_eq_true (((v_1.ks.length : Nat) : Int) != ((v_1.l.length : Nat) : Int)) with b25 | b25
  replace h := ite_t b25 h
  exact T_regJ [zn, zn, (zd (I ((v_1.ks.length : Nat) : Int))), zn, zn, (zd (I ((v_1.l.length : Nat) : Int))), zn, zn, zg, zg, zg, zg, (zd (B true))] [] [1, 60] [] [1] _ _ (by kernel_rfl) (z5 (zc (len_s elStr v_1.ks) (z5 (zc (len_s encVal v_1.l) (z4 (zc (gd_tf b25) (zc (gd_tf b25) (zc (gd_tf b25) (zc (gd_tf b25) (z1 (zc b25 zt))))))))))) (fun s hs => Exists.intro true (And.intro h hs))
  replace h := ite_f b25 h
  obtain ⟨r_26, e27, h⟩ := bd_inv h
  exact T_regJ (hl 13 [(2, (zd (I ((v_1.ks.length : Nat) : Int)))), (5, (zd (I ((v_1.l.length : Nat) : Int)))), (10, (zd (B (r_26)))), (12, (zd (B false)))]) [] [1, 60] [] [1] _ _ (by kernel_rfl) (z5 (zc (len_s elStr v_1.ks) (z5 (zc (len_s encVal v_1.l) (z4 (zc (gd_ff b25) (z1 (zc (gd_ff b25) (z1 (zc (gd_ff b25) (zc (g_ref02_increasing_ret e27) (zc (gd_ff b25) (z2 (zc b25 zt)))))))))))))) (fun s hs => Exists.intro (!(r_26)) (And.intro h hs))
  replace h := ite_f b22 h
  refine T_reg [] [2] [1] (mk 83 [(2, (db false))] []) _ (by kernel_rfl) (z2 zt) ?_
  refine T_ret ?_
  obtain rfl := some_inv h
  exact ret_here [(db false)] (by kernel_rfl) (.inl rfl)
theorem g_ref02_Formed_ret : ∀ {fu : Nat} {v_1 : Val} {r : Bool}, g_ref02_Formed fu v_1 = some r → Ret Tryd.prog 29 [(ndcVal v_1)] (B (r))
  | 0, _, _, h => by cases h
  | fu + 1, _, _, h => g_ref02_Formed_s_ret (fun {_} {_} h => g_ref02_Formed_ret h) h

theorem g_ref02_Depth_s_ret {rc : (Val) → Option (Int)} (hrc : ∀ {v_1 : Val} {r : Int}, rc v_1 = some r → Ret Tryd.prog 30 [(ndcVal v_1)] (I r)) {v_1 : Val} {r : Int} (h : g_ref02_Depth_s rc v_1 = some r) : Ret Tryd.prog 30 [(ndcVal v_1)] (I r) := by
  refine Ret.of_T Tryd.func30 (by kernel_rfl) rfl ?_
  refine T_turn [] [0] [] (mk 30 [(0, (.agg (qVal v_1)))] []) (by kernel_rfl) ?_
  refine T_reg [] [1] [] (mk 30 [(1, (rf 1 0))] [(1, (.var (qVal v_1)))]) _ (by kernel_rfl) (z4 zt) ?_
  refine T_seq ?_
  refine T_seqJ (α := Bool) (fun (v_2 : Bool) => (mk 30 [(1, (rf 1 0)), (12, (db (v_2)))] [(1, (.var (qVal v_1)))])) (fun (v_2 : Bool) => g_ref02_Depth_s_j1 v_1 rc v_2 = some r) (fun v_2 h => ?_) ?_
  refine T_cond (v_2) (by kernel_rfl) (fun b3 => ?_) (fun b3 => ?_)
  replace h := ite_t b3 h
  refine T_reg [] [2] [1] (mk 30 [(2, (di 0))] []) _ (by kernel_rfl) (z2 zt) ?_
  refine T_ret ?_
  obtain rfl := some_inv h
  exact ret_here [(di 0)] (by kernel_rfl) (.inl rfl)
  replace h := ite_f b3 h
  refine T_skip ?_
  refine T_reg [] [1, 3] [] (mk 30 [(1, (rf 1 0)), (3, (di 0))] [(1, (.var (qVal v_1)))]) _ (by kernel_rfl) (z2 zt) ?_
  refine T_seqJ (α := Int) (fun (n_4 : Int) => (mk 30 [(3, (di n_4))] [])) (fun (n_4 : Int) => g_ref02_Depth_s_j2 n_4 = some r) (fun n_4 h => ?_) ?_
  obtain ⟨c5, h⟩ := ckI_inv h
  refine T_reg [zn, (zd (I (n_4 + 1)))] [2] [] (mk 30 [(2, (di (n_4 + 1)))] []) _ (by kernel_rfl) (z3 (zc c5 (z2 zt))) ?_
  refine T_ret ?_
  obtain rfl := some_inv h
  exact ret_here [(di (n_4 + 1))] (by kernel_rfl) (.inl rfl)
  refine T_reg [] [1, 3, 4] [] (mk 30 [(1, (rf 1 0)), (3, (di 0)), (4, (di 0))] [(1, (.var (qVal v_1)))]) _ (by kernel_rfl) (z2 zt) ?_
  refine T_block ?_
  refine T_arr [] [1, 3, 4] [] [1] _ (by kernel_rfl) (T_loopO (σ := Int × Nat) (fun ((n_6, i_7) : Int × Nat) => (mk 30 [(1, (rf 1 0)), (3, (di n_6)), (4, (di ((i_7 : Nat) : Int)))] [(1, (.var (qVal v_1)))])) (g_ref02_Depth_s_l3 v_1 rc) (0, 0) h (fun v y1 hy1 h => ?_))
  obtain ⟨n_6, i_7⟩ := v
  refine T_seq ?_
  refine T_reg [zn, zn, zn, (zd (I ((v_1.l.length : Nat) : Int)))] [1, 3, 4, 17] [] (mk 30 [(1, (rf 1 0)), (3, (di n_6)), (4, (di ((i_7 : Nat) : Int))), (17, (db (decide (((i_7 : Nat) : Int) < ((v_1.l.length : Nat) : Int)))))] [(1, (.var (qVal v_1)))]) _ (by kernel_rfl) (z7 (zc (len_s encVal v_1.l) (z2 zt))) ?_
  refine T_cond (decide (((i_7 : Nat) : Int) < ((v_1.l.length : Nat) : Int))) (by kernel_rfl) (fun b10 => ?_) (fun b10 => ?_)
  replace h := ite_t b10 h
  refine T_skip ?_
  refine T_seq ?_
  refine T_block ?_
  obtain ⟨x_11, e12, e13, e14, h⟩ := gn_invE encVal ndcVal encVal_nd h
  obtain ⟨r_15, e16, h⟩ := bd_inv h
  refine T_regE (hl 7 [(4, (zd (ndcVal x_11))), (6, (zd (I r_15)))]) (mk 30 [(1, (rf 1 0)), (3, (di (if r_15 > n_6 then r_15 else n_6))), (4, (di ((i_7 : Nat) : Int))), (17, (db (decide (((i_7 : Nat) : Int) < ((v_1.l.length : Nat) : Int))))), (20, (di n_6)), (21, (rf 1 3)), (22, (dt (.sl 5 (v_1.l.map encVal)))), (23, (di ((i_7 : Nat) : Int))), (24, (dt (.ptr [(I x_11.k), (I x_11.n), (.str x_11.s), (.sl 5 (x_11.l.map encVal)), (.sl 1 (x_11.ks.map elStr))]))), (25, (.agg (qVal x_11))), (26, (di r_15)), (27, (di (if r_15 > n_6 then r_15 else n_6)))] [(1, (.var (qVal v_1)))]) _ (by kernel_rfl) (z8 (z1 (zc e12 (z3 (zc (hrc e16) (z4 zt)))))) ?_
  obtain ⟨c17, h⟩ := ckI_inv h
  exact T_regJ [zn, (zd (I ((i_7 + 1 : Nat) : Int)))] [] [1, 3, 4] [] [1] _ _ (by kernel_rfl) (z3 (zc c17 (z2 zt))) (fun s hs => Exists.intro ((if r_15 > n_6 then r_15 else n_6), i_7 + 1) (And.intro h hs))
  replace h := ite_f b10 h
  refine T_exit ?_
  replace h := up_inv h hy1
  exact Exists.intro n_6 (And.intro h (arr [] [3] [1] [] (by kernel_rfl)))
  rcases Bool.eq_false_or_eq_true (v_1.k == 1) with b18 | b18
  replace h := ite_t b18 h
  exact T_regJ [zn, zn, zn, zn, zg, zg, zg, (zd (B true))] [] [1, 12] [] [1] _ _ (by kernel_rfl) (z8 (zc (gd_tf b18) (zc (gd_tf b18) (zc (gd_tf b18) (z1 (zc b18 zt)))))) (fun s hs => Exists.intro true (And.intro h hs))
  replace h := ite_f b18 h
  exact T_regJ (hl 8 [(7, (zd (B false)))]) [] [1, 12] [] [1] _ _ (by kernel_rfl) (z8 (zc (gd_ff b18) (z1 (zc (gd_ff b18) (z1 (zc (gd_ff b18) (z2 (zc b18 zt)))))))) (fun s hs => Exists.intro (v_1.k == 2) (And.intro h hs))
theorem g_ref02_Depth_ret : ∀ {fu : Nat} {v_1 : Val} {r : Int}, g_ref02_Depth fu v_1 = some r → Ret Tryd.prog 30 [(ndcVal v_1)] (I r)
  | 0, _, _, h => by cases h
  | fu + 1, _, _, h => g_ref02_Depth_s_ret (fun {_} {_} h => g_ref02_Depth_ret h) h

theorem g_ref02_Check_ret {v_1 : Val} {r : Int} (h : g_ref02_Check v_1 = some r) : Ret Tryd.prog 15 [(ndcVal v_1)] (I r) := by
  refine Ret.of_T Tryd.func15 (by kernel_rfl) rfl ?_
  refine T_turn [] [0] [] (mk 9 [(0, (.agg (qVal v_1)))] []) (by kernel_rfl) ?_
  refine T_reg [] [1] [] (mk 9 [(1, (rf 1 0))] [(1, (.var (qVal v_1)))]) _ (by kernel_rfl) (z4 zt) ?_
  refine T_seq ?_
  obtain ⟨r_2, e3, h⟩ := bd_inv h
  refine T_reg [zn, (zd (B (r_2)))] [1, 5] [] (mk 9 [(1, (rf 1 0)), (5, (db (!(r_2))))] [(1, (.var (qVal v_1)))]) _ (by kernel_rfl) (z3 (zc (g_ref02_Formed_ret e3) (z2 zt))) ?_
  refine T_cond (!(r_2)) (by kernel_rfl) (fun b4 => ?_) (fun b4 => ?_)
  replace h := ite_t b4 h
  refine T_reg [] [2] [1] (mk 9 [(2, (di 1))] []) _ (by kernel_rfl) (z2 zt) ?_
  refine T_ret ?_
  obtain rfl := some_inv h
  exact ret_here [(di 1)] (by kernel_rfl) (.inl rfl)
  replace h := ite_f b4 h
  refine T_skip ?_
  refine T_seq ?_
  obtain ⟨r_5, e6, h⟩ := bd_inv h
  refine T_reg [zn, (zd (I r_5))] [8] [1] (mk 9 [(8, (db (decide (r_5 > 16))))] []) _ (by kernel_rfl) (z3 (zc (g_ref02_Depth_ret e6) (z2 zt))) ?_
  refine T_cond (decide (r_5 > 16)) (by kernel_rfl) (fun b7 => ?_) (fun b7 => ?_)
  replace h := ite_t b7 h
  refine T_reg [] [2] [] (mk 9 [(2, (di 2))] []) _ (by kernel_rfl) (z2 zt) ?_
  refine T_ret ?_
  obtain rfl := some_inv h
  exact ret_here [(di 2)] (by kernel_rfl) (.inl rfl)
  replace h := ite_f b7 h
  refine T_skip ?_
  refine T_reg [] [2] [] (mk 9 [(2, (di 0))] []) _ (by kernel_rfl) (z2 zt) ?_
  refine T_ret ?_
  obtain rfl := some_inv h
  exact ret_here [(di 0)] (by kernel_rfl) (.inl rfl)

theorem g_slices_Equal_Lstring_string_ret {s1_1 : List ((List UInt8))} {s2_2 : List ((List UInt8))} {r : Bool} (h : g_slices_Equal_Lstring_string s1_1 s2_2 = some r) : Ret Tryd.prog 36 [(.sl 1 (s1_1.map elStr)), (.sl 1 (s2_2.map elStr))] (B (r)) := by
  refine Ret.of_T Tryd.func36 (by kernel_rfl) rfl ?_
  refine T_turn [] [0, 1] [] (mk 26 [(0, (dt (.sl 1 (s1_1.map elStr)))), (1, (dt (.sl 1 (s2_2.map elStr))))] []) (by kernel_rfl) ?_
  refine T_reg [] [0, 1] [] (mk 26 [(0, (dt (.sl 1 (s1_1.map elStr)))), (1, (dt (.sl 1 (s2_2.map elStr))))] []) _ (by kernel_rfl) (z2 zt) ?_
  refine T_seq ?_
  refine T_reg [zn, (zd (I ((s1_1.length : Nat) : Int))), zn, (zd (I ((s2_2.length : Nat) : Int)))] [0, 1, 10] [] (mk 26 [(0, (dt (.sl 1 (s1_1.map elStr)))), (1, (dt (.sl 1 (s2_2.map elStr)))), (10, (db (((s1_1.length : Nat) : Int) != ((s2_2.length : Nat) : Int))))] []) _ (by kernel_rfl) (z3 (zc (len_s elStr s1_1) (z3 (zc (len_s elStr s2_2) (z2 zt))))) ?_
  refine T_cond (((s1_1.length : Nat) : Int) != ((s2_2.length : Nat) : Int)) (by kernel_rfl) (fun b3 => ?_) (fun b3 => ?_)
  replace h := ite_t b3 h
  refine T_reg [] [4] [] (mk 26 [(4, (db false))] []) _ (by kernel_rfl) (z2 zt) ?_
  refine T_ret ?_
  obtain rfl := some_inv h
  exact ret_here [(db false)] (by kernel_rfl) (.inl rfl)
  replace h := ite_f b3 h
  refine T_skip ?_
  refine T_seqJ (α := Unit) (fun (_ : Unit) => (mk 26 [] [])) (fun (_ : Unit) => g_slices_Equal_Lstring_string_j1 = some r) (fun v h => ?_) ?_
  refine T_reg [] [4] [] (mk 26 [(4, (db true))] []) _ (by kernel_rfl) (z2 zt) ?_
  refine T_ret ?_
  obtain rfl := some_inv h
  exact ret_here [(db true)] (by kernel_rfl) (.inl rfl)
  refine T_reg [zn, (zd (I ((s1_1.length : Nat) : Int)))] [0, 1, 12, 13] [] (mk 26 [(0, (dt (.sl 1 (s1_1.map elStr)))), (1, (dt (.sl 1 (s2_2.map elStr)))), (12, (di ((s1_1.length : Nat) : Int))), (13, (di 0))] []) _ (by kernel_rfl) (z3 (zc (len_s elStr s1_1) (z2 zt))) ?_
  refine T_block ?_
  refine T_arr [] [0, 1, 12, 13] [] [] _ (by kernel_rfl) (T_loopO (σ := Nat) (fun (v_4 : Nat) => (mk 26 [(0, (dt (.sl 1 (s1_1.map elStr)))), (1, (dt (.sl 1 (s2_2.map elStr)))), (12, (di ((s1_1.length : Nat) : Int))), (13, (di ((v_4 : Nat) : Int)))] [])) (g_slices_Equal_Lstring_string_l2 s1_1 s2_2) 0 h (fun v_4 y1 hy1 h => ?_))
  refine T_reg [] [0, 1, 12, 13, 14] [] (mk 26 [(0, (dt (.sl 1 (s1_1.map elStr)))), (1, (dt (.sl 1 (s2_2.map elStr)))), (12, (di ((s1_1.length : Nat) : Int))), (13, (di ((v_4 : Nat) : Int))), (14, (db (decide (((v_4 : Nat) : Int) < ((s1_1.length : Nat) : Int)))))] []) _ (by kernel_rfl) (z2 zt) ?_
  refine T_seq ?_
  refine T_cond (decide (((v_4 : Nat) : Int) < ((s1_1.length : Nat) : Int))) (by kernel_rfl) (fun b6 => ?_) (fun b6 => ?_)
  replace h := ite_t b6 h
  refine T_skip ?_
  refine T_seq ?_
  refine T_block ?_
  refine T_reg [] [0, 1, 5, 12, 13] [] (mk 26 [(0, (dt (.sl 1 (s1_1.map elStr)))), (1, (dt (.sl 1 (s2_2.map elStr)))), (5, (di ((v_4 : Nat) : Int))), (12, (di ((s1_1.length : Nat) : Int))), (13, (di ((v_4 : Nat) : Int)))] []) _ (by kernel_rfl) (z4 zt) ?_
  obtain ⟨x_7, e8, e9, e10, h⟩ := gn_inv elStr h
  obtain ⟨x_11, e12, e13, e14, h⟩ := gn_inv elStr h
  refine T_regD 9 (hl 7 [(2, (zd (.str x_7))), (6, (zd (.str x_11)))]) [0, 1, 12, 13, 24] [] (mk 26 [(0, (dt (.sl 1 (s1_1.map elStr)))), (1, (dt (.sl 1 (s2_2.map elStr)))), (12, (di ((s1_1.length : Nat) : Int))), (13, (di ((v_4 : Nat) : Int))), (24, (db (!(x_7 == x_11))))] []) _ (by kernel_rfl) (by kernel_rfl) (by kernel_rfl) (zc (z5 (zc e8 (z7 (zc e12 (z4 zt))))) zt) ?_
  refine T_cond (!(x_7 == x_11)) (by kernel_rfl) (fun b15 => ?_) (fun b15 => ?_)
  replace h := ite_t b15 h
  refine T_reg [] [4] [] (mk 26 [(4, (db false))] []) _ (by kernel_rfl) (z2 zt) ?_
  refine T_ret ?_
  replace h := up_inv h hy1
  obtain rfl := some_inv h
  exact ret_here [(db false)] (by kernel_rfl) (.inl rfl)
  replace h := ite_f b15 h
  refine T_skip ?_
  obtain ⟨c16, h⟩ := ckI_inv h
  exact T_regJ [(zd (I ((v_4 + 1 : Nat) : Int)))] [] [0, 1, 12, 13] [] [] _ _ (by kernel_rfl) (z1 (zc c16 (z2 zt))) (fun s hs => Exists.intro (v_4 + 1) (And.intro h hs))
  replace h := ite_f b6 h
  refine T_exit ?_
  replace h := up_inv h hy1
  exact Exists.intro () (And.intro h (arr [] [] [] [] (by kernel_rfl)))

theorem g_codec_Same_s_ret {rc : (Val) → (Val) → Option (Bool)} (hrc : ∀ {a_1 : Val} {b_2 : Val} {r : Bool}, rc a_1 b_2 = some r → Ret Tryd.prog 21 [(ndcVal a_1), (ndcVal b_2)] (B (r))) {a_1 : Val} {b_2 : Val} {r : Bool} (h : g_codec_Same_s rc a_1 b_2 = some r) : Ret Tryd.prog 21 [(ndcVal a_1), (ndcVal b_2)] (B (r)) := by
  refine Ret.of_T Tryd.func21 (by kernel_rfl) rfl ?_
  refine T_turn [] [0, 1] [] (mk 38 [(0, (.agg (qVal a_1))), (1, (.agg (qVal b_2)))] []) (by kernel_rfl) ?_
  refine T_reg [] [2, 3] [] (mk 38 [(2, (rf 2 0)), (3, (rf 3 0))] [(3, (.var (qVal b_2))), (2, (.var (qVal a_1)))]) _ (by kernel_rfl) (z6 zt) ?_
  rcases Bool.eq_false_or_eq_true (a_1.k == b_2.k) with b3 | b3
  replace h := ite_t b3 h
  rcases Bool.eq_false_or_eq_true (a_1.n == b_2.n) with b4 | b4
  replace h := ite_t b4 h
  rcases Bool.eq_false_or_eq_true (a_1.s == b_2.s) with b5 | b5
  replace h := ite_t b5 h
  obtain ⟨r_6, e7, h⟩ := bd_inv h
  rcases Bool.eq_false_or_eq_true (r_6) with b8 | b8
  replace h := ite_t b8 h
  refine T_seq (T_parts ?_)
  refine TL_part 31 (hl 26 [(11, (zd (B true))), (18, (zd (B true))), (24, (zd (B (r_6)))), (25, (zd (B true)))]) (mk 38 [(2, (rf 2 0)), (3, (rf 3 0)), (5, (rf 2 0)), (6, (di a_1.k)), (7, (rf 3 0)), (8, (di b_2.k)), (9, (db (a_1.k == b_2.k))), (10, (db (a_1.k == b_2.k))), (11, (rf 2 1)), (12, (di a_1.n)), (13, (rf 3 1)), (14, (di b_2.n)), (15, (db (a_1.n == b_2.n))), (16, (db (a_1.n == b_2.n))), (17, (db (a_1.n == b_2.n))), (18, (rf 2 2)), (19, (dt (.str a_1.s))), (20, (rf 3 2)), (21, (dt (.str b_2.s))), (22, (db (a_1.s == b_2.s))), (23, (db (a_1.s == b_2.s))), (24, (db (a_1.s == b_2.s))), (25, (rf 2 4)), (26, (dt (.sl 1 (a_1.ks.map elStr)))), (27, (rf 3 4)), (28, (dt (.sl 1 (b_2.ks.map elStr)))), (29, (db (r_6))), (30, (db (r_6))), (31, (db (r_6))), (32, (rf 2 3)), (33, (dt (.sl 5 (a_1.l.map encVal)))), (34, (rf 3 3)), (35, (dt (.sl 5 (b_2.l.map encVal))))] [(3, (.var (qVal b_2))), (2, (.var (qVal a_1)))]) _ (by kernel_rfl) (z8 (z4 (zc (gd_tt b3) (z1 (zc (gd_tt b3) (z1 (zc (gd_tt b3) (z1 (zc (gd_tt b3) (z1 (zc (gd_tt b3) (z2 (zc b3 (z2 (zc (gd_tt b4) (z1 (zc (gd_tt b4) (z1 (zc (gd_tt b4) (z1 (zc (gd_tt b4) (z1 (zc (gd_tt b4) (z2 (zc b4 (z2 (zc (gd_tt b5) (z1 (zc (gd_tt b5) (z1 (zc (gd_tt b5) (z1 (zc (gd_tt b5) (z1 (zc (gd_tt b5) (zc (g_slices_Equal_Lstring_string_ret e7) (z1 (zc b5 (z2 (zc (gd_tt b8) (z1 (zc (gd_tt b8) (z1 (zc (gd_tt b8) (z1 (zc (gd_tt b8) (z1 zt))))))))))))))))))))))))))))))))))))))))))))))) rfl ?_
  refine TL_guard (p := ((r_6) == true) = true) (by kernel_rfl) (gd_tt b8) ?_
  refine TL_consJ (α := Bool) (fun (v_9 : Bool) => (mk 38 [(31, (db (r_6))), (36, (db (v_9)))] [])) (fun (v_9 : Bool) => g_codec_Same_s_j1 r_6 v_9 = some r) (fun v_9 h => ?_) ?_
  refine TL_turn [] [31, 36] [] (mk 38 [(31, (db (r_6))), (36, (db (v_9)))] []) (by kernel_rfl) ?_
  refine TL_part 2 [(zd (B true))] (mk 38 [(4, (db (v_9))), (31, (db (r_6))), (36, (db (v_9))), (37, (db (v_9)))] []) _ (by kernel_rfl) (z1 (zc b8 (z2 zt))) rfl ?_
  refine TL_nilQ ?_
  refine T_turn [] [4] [] (mk 38 [(4, (db (v_9)))] []) (by kernel_rfl) ?_
  refine T_ret ?_
  obtain rfl := some_inv h
  exact ret_here [(db (v_9))] (by kernel_rfl) (.inl rfl)
  refine TL_inline 38 37 [] Tryd.f37 _ rfl rfl (by kernel_rfl) Tryd.func37 rfl rfl (by decide) ?_
  refine T_turn [] [0, 1, 2] [] (mk 32 [(0, (dt (.sl 5 (a_1.l.map encVal)))), (1, (dt (.sl 5 (b_2.l.map encVal)))), (2, (.one (.fn 21 [])))] [(3, (.var (qVal b_2))), (2, (.var (qVal a_1)))]) (by kernel_rfl) ?_
  refine T_reg [] [0, 1, 2] [3, 2] (mk 32 [(0, (dt (.sl 5 (a_1.l.map encVal)))), (1, (dt (.sl 5 (b_2.l.map encVal)))), (2, (.one (.fn 21 [])))] []) _ (by kernel_rfl) (z2 zt) ?_
  refine T_seq ?_
  refine T_reg [zn, (zd (I ((a_1.l.length : Nat) : Int))), zn, (zd (I ((b_2.l.length : Nat) : Int)))] [0, 1, 2, 14] [] (mk 32 [(0, (dt (.sl 5 (a_1.l.map encVal)))), (1, (dt (.sl 5 (b_2.l.map encVal)))), (2, (.one (.fn 21 []))), (14, (db (((a_1.l.length : Nat) : Int) != ((b_2.l.length : Nat) : Int))))] []) _ (by kernel_rfl) (z3 (zc (len_s encVal a_1.l) (z3 (zc (len_s encVal b_2.l) (z2 zt))))) ?_
  refine T_cond (((a_1.l.length : Nat) : Int) != ((b_2.l.length : Nat) : Int)) (by kernel_rfl) (fun b10 => ?_) (fun b10 => ?_)
  replace h := ite_t b10 h
  refine T_reg [] [6] [] (mk 32 [(6, (db false))] []) _ (by kernel_rfl) (z2 zt) ?_
  refine T_ret ?_
  refine ⟨[(db false)], by kernel_rfl, ?_⟩
  refine TL_nilQ ?_
  exact Exists.intro false (And.intro h (arr [] [31, 36] [] [] (by kernel_rfl)))
  replace h := ite_f b10 h
  refine T_skip ?_
  refine T_seqJ (α := Unit) (fun (_ : Unit) => (mk 32 [] [])) (fun (_ : Unit) => g_codec_Same_s_j2 r_6 = some r) (fun v h => ?_) ?_
  refine T_reg [] [6] [] (mk 32 [(6, (db true))] []) _ (by kernel_rfl) (z2 zt) ?_
  refine T_ret ?_
  refine ⟨[(db true)], by kernel_rfl, ?_⟩
  refine TL_nilQ ?_
  exact Exists.intro true (And.intro h (arr [] [31, 36] [] [] (by kernel_rfl)))
  refine T_reg [zn, (zd (I ((a_1.l.length : Nat) : Int)))] [1, 2, 15, 16, 17] [] (mk 32 [(1, (dt (.sl 5 (b_2.l.map encVal)))), (2, (.one (.fn 21 []))), (15, (dt (.sl 5 (a_1.l.map encVal)))), (16, (di ((a_1.l.length : Nat) : Int))), (17, (di 0))] []) _ (by kernel_rfl) (z3 (zc (len_s encVal a_1.l) (z2 zt))) ?_
  refine T_block ?_
  refine T_arr [] [1, 2, 15, 16, 17] [] [] _ (by kernel_rfl) (T_loopO (σ := Nat) (fun (v_11 : Nat) => (mk 32 [(1, (dt (.sl 5 (b_2.l.map encVal)))), (2, (.one (.fn 21 []))), (15, (dt (.sl 5 (a_1.l.map encVal)))), (16, (di ((a_1.l.length : Nat) : Int))), (17, (di ((v_11 : Nat) : Int)))] [])) (g_codec_Same_s_l3 a_1 b_2 rc r_6) 0 h (fun v_11 y1 hy1 h => ?_))
  refine T_reg [] [1, 2, 15, 16, 17, 18] [] (mk 32 [(1, (dt (.sl 5 (b_2.l.map encVal)))), (2, (.one (.fn 21 []))), (15, (dt (.sl 5 (a_1.l.map encVal)))), (16, (di ((a_1.l.length : Nat) : Int))), (17, (di ((v_11 : Nat) : Int))), (18, (db (decide (((v_11 : Nat) : Int) < ((a_1.l.length : Nat) : Int)))))] []) _ (by kernel_rfl) (z2 zt) ?_
  refine T_seq ?_
  refine T_cond (decide (((v_11 : Nat) : Int) < ((a_1.l.length : Nat) : Int))) (by kernel_rfl) (fun b13 => ?_) (fun b13 => ?_)
  replace h := ite_t b13 h
  refine T_skip ?_
  refine T_seq ?_
  refine T_block ?_
  obtain ⟨x_14, e15, e16, e17, h⟩ := gn_invE encVal ndcVal encVal_nd h
  refine T_reg [zn, (zd (ndcVal x_14))] [1, 2, 7, 8, 15, 16, 17] [] (mk 32 [(1, (dt (.sl 5 (b_2.l.map encVal)))), (2, (.one (.fn 21 []))), (7, (di ((v_11 : Nat) : Int))), (8, (rf 46 0)), (15, (dt (.sl 5 (a_1.l.map encVal)))), (16, (di ((a_1.l.length : Nat) : Int))), (17, (di ((v_11 : Nat) : Int)))] [(46, (.var (qVal x_14)))]) _ (by kernel_rfl) (z3 (zc e15 (z8 zt))) ?_
  obtain ⟨x_18, e19, e20, e21, h⟩ := gn_invE encVal ndcVal encVal_nd h
  refine T_reg [zn, zn, (zd (ndcVal x_18))] [1, 2, 8, 9, 15, 16, 17] [] (mk 32 [(1, (dt (.sl 5 (b_2.l.map encVal)))), (2, (.one (.fn 21 []))), (8, (rf 46 0)), (9, (rf 47 0)), (15, (dt (.sl 5 (a_1.l.map encVal)))), (16, (di ((a_1.l.length : Nat) : Int))), (17, (di ((v_11 : Nat) : Int)))] [(47, (.var (qVal x_18))), (46, (.var (qVal x_14)))]) _ (by kernel_rfl) (z5 (zc e19 (z6 zt))) ?_
  obtain ⟨r_22, e23, h⟩ := bd_inv h
  refine T_reg [zn, zn, zn, (zd (B (r_22)))] [1, 2, 15, 16, 17, 30] [47, 46] (mk 32 [(1, (dt (.sl 5 (b_2.l.map encVal)))), (2, (.one (.fn 21 []))), (15, (dt (.sl 5 (a_1.l.map encVal)))), (16, (di ((a_1.l.length : Nat) : Int))), (17, (di ((v_11 : Nat) : Int))), (30, (db (!(r_22))))] []) _ (by kernel_rfl) (z7 (zc (hrc e23) (z2 zt))) ?_
  refine T_cond (!(r_22)) (by kernel_rfl) (fun b24 => ?_) (fun b24 => ?_)
  replace h := ite_t b24 h
  refine T_reg [] [6] [] (mk 32 [(6, (db false))] []) _ (by kernel_rfl) (z2 zt) ?_
  refine T_ret ?_
  replace h := up_inv h hy1
  refine ⟨[(db false)], by kernel_rfl, ?_⟩
  refine TL_nilQ ?_
  exact Exists.intro false (And.intro h (arr [] [31, 36] [] [] (by kernel_rfl)))
  replace h := ite_f b24 h
  refine T_skip ?_
  obtain ⟨c25, h⟩ := ckI_inv h
  exact T_regJ [(zd (I ((v_11 + 1 : Nat) : Int)))] [] [1, 2, 15, 16, 17] [] [] _ _ (by kernel_rfl) (z1 (zc c25 (z2 zt))) (fun s hs => Exists.intro (v_11 + 1) (And.intro h hs))
  replace h := ite_f b13 h
  refine T_exit ?_
  replace h := up_inv h hy1
  exact Exists.intro () (And.intro h (arr [] [] [] [] (by kernel_rfl)))
  replace h := ite_f b8 h
  refine T_reg (hl 33 [(11, (zd (B true))), (18, (zd (B true))), (24, (zd (B (r_6)))), (25, (zd (B true))), (27, zg), (28, zg), (29, zg), (30, zg), (31, zg), (32, (zd (B false)))]) [4] [3, 2] (mk 38 [(4, (db false))] []) _ (by kernel_rfl) (z8 (z4 (zc (gd_tt b3) (z1 (zc (gd_tt b3) (z1 (zc (gd_tt b3) (z1 (zc (gd_tt b3) (z1 (zc (gd_tt b3) (z2 (zc b3 (z2 (zc (gd_tt b4) (z1 (zc (gd_tt b4) (z1 (zc (gd_tt b4) (z1 (zc (gd_tt b4) (z1 (zc (gd_tt b4) (z2 (zc b4 (z2 (zc (gd_tt b5) (z1 (zc (gd_tt b5) (z1 (zc (gd_tt b5) (z1 (zc (gd_tt b5) (z1 (zc (gd_tt b5) (zc (g_slices_Equal_Lstring_string_ret e7) (z1 (zc b5 (z2 (zc (gd_ft b8) (zc (gd_ft b8) (zc (gd_ft b8) (zc (gd_ft b8) (zc (gd_ft b8) (z1 (zc b8 (z2 zt))))))))))))))))))))))))))))))))))))))))))))))) ?_
  refine T_ret ?_
  obtain rfl := some_inv h
  exact ret_here [(db false)] (by kernel_rfl) (.inl rfl)
  replace h := ite_f b5 h
  refine T_reg [zn, zn, zn, zn, zn, zn, zn, zn, zn, zn, zn, (zd (B true)), zn, zn, zn, zn, zn, zn, (zd (B true)), zn, zg, zg, zg, zg, zg, (zd (B false)), zn, zg, zg, zg, zg, zg, (zd (B false))] [4] [3, 2] (mk 38 [(4, (db false))] []) _ (by kernel_rfl) (z8 (z4 (zc (gd_tt b3) (z1 (zc (gd_tt b3) (z1 (zc (gd_tt b3) (z1 (zc (gd_tt b3) (z1 (zc (gd_tt b3) (z2 (zc b3 (z2 (zc (gd_tt b4) (z1 (zc (gd_tt b4) (z1 (zc (gd_tt b4) (z1 (zc (gd_tt b4) (z1 (zc (gd_tt b4) (z2 (zc b4 (z2 (zc (gd_ft b5) (zc (gd_ft b5) (zc (gd_ft b5) (zc (gd_ft b5) (zc (gd_ft b5) (z1 (zc b5 (z2 (zc (gd_ft (rfl : false = false)) (zc (gd_ft (rfl : false = false)) (zc (gd_ft (rfl : false = false)) (zc (gd_ft (rfl : false = false)) (zc (gd_ft (rfl : false = false)) (z1 (zc (rfl : false = false) (z2 zt)))))))))))))))))))))))))))))))))))))))))) ?_
  refine T_ret ?_
  obtain rfl := some_inv h
  exact ret_here [(db false)] (by kernel_rfl) (.inl rfl)
  replace h := ite_f b4 h
  refine T_reg [zn, zn, zn, zn, zn, zn, zn, zn, zn, zn, zn, (zd (B true)), zn, zg, zg, zg, zg, zg, (zd (B false)), zn, zg, zg, zg, zg, zg, (zd (B false)), zn, zg, zg, zg, zg, zg, (zd (B false))] [4] [3, 2] (mk 38 [(4, (db false))] []) _ (by kernel_rfl) (z8 (z4 (zc (gd_tt b3) (z1 (zc (gd_tt b3) (z1 (zc (gd_tt b3) (z1 (zc (gd_tt b3) (z1 (zc (gd_tt b3) (z2 (zc b3 (z2 (zc (gd_ft b4) (zc (gd_ft b4) (zc (gd_ft b4) (zc (gd_ft b4) (zc (gd_ft b4) (z1 (zc b4 (z2 (zc (gd_ft (rfl : false = false)) (zc (gd_ft (rfl : false = false)) (zc (gd_ft (rfl : false = false)) (zc (gd_ft (rfl : false = false)) (zc (gd_ft (rfl : false = false)) (z1 (zc (rfl : false = false) (z2 (zc (gd_ft (rfl : false = false)) (zc (gd_ft (rfl : false = false)) (zc (gd_ft (rfl : false = false)) (zc (gd_ft (rfl : false = false)) (zc (gd_ft (rfl : false = false)) (z1 (zc (rfl : false = false) (z2 zt)))))))))))))))))))))))))))))))))))))) ?_
  refine T_ret ?_
  obtain rfl := some_inv h
  exact ret_here [(db false)] (by kernel_rfl) (.inl rfl)
  replace h := ite_f b3 h
  refine T_reg [zn, zn, zn, zn, zn, zn, zg, zg, zg, zg, zg, (zd (B false)), zn, zg, zg, zg, zg, zg, (zd (B false)), zn, zg, zg, zg, zg, zg, (zd (B false)), zn, zg, zg, zg, zg, zg, (zd (B false))] [4] [3, 2] (mk 38 [(4, (db false))] []) _ (by kernel_rfl) (z8 (z4 (zc (gd_ft b3) (zc (gd_ft b3) (zc (gd_ft b3) (zc (gd_ft b3) (zc (gd_ft b3) (z1 (zc b3 (z2 (zc (gd_ft (rfl : false = false)) (zc (gd_ft (rfl : false = false)) (zc (gd_ft (rfl : false = false)) (zc (gd_ft (rfl : false = false)) (zc (gd_ft (rfl : false = false)) (z1 (zc (rfl : false = false) (z2 (zc (gd_ft (rfl : false = false)) (zc (gd_ft (rfl : false = false)) (zc (gd_ft (rfl : false = false)) (zc (gd_ft (rfl : false = false)) (zc (gd_ft (rfl : false = false)) (z1 (zc (rfl : false = false) (z2 (zc (gd_ft (rfl : false = false)) (zc (gd_ft (rfl : false = false)) (zc (gd_ft (rfl : false = false)) (zc (gd_ft (rfl : false = false)) (zc (gd_ft (rfl : false = false)) (z1 (zc (rfl : false = false) (z2 zt)))))))))))))))))))))))))))))))))) ?_
  refine T_ret ?_
  obtain rfl := some_inv h
  exact ret_here [(db false)] (by kernel_rfl) (.inl rfl)
theorem g_codec_Same_ret : ∀ {fu : Nat} {a_1 : Val} {b_2 : Val} {r : Bool}, g_codec_Same fu a_1 b_2 = some r → Ret Tryd.prog 21 [(ndcVal a_1), (ndcVal b_2)] (B (r))
  | 0, _, _, _, h => by cases h
  | fu + 1, _, _, _, h => g_codec_Same_s_ret (fun {_} {_} {_} h => g_codec_Same_ret h) h

end Go.Proofs.YtimalbkjflfdoaaDoor

namespace Go.Proofs.YtimalbkjflfdoaaDoor
open Go.DL
set_option maxRecDepth 100000
set_option maxHeartbeats 4000000
theorem g_ref02_Same_s_ret {rc : (Val) → (Val) → Option (Bool)} (hrc : ∀ {a_1 : Val} {b_2 : Val} {r : Bool}, rc a_1 b_2 = some r → Ret Tryd.prog 18 [(ndcVal a_1), (ndcVal b_2)] (B (r))) {a_1 : Val} {b_2 : Val} {r : Bool} (h : g_ref02_Same_s rc a_1 b_2 = some r) : Ret Tryd.prog 18 [(ndcVal a_1), (ndcVal b_2)] (B (r)) := by
  refine Ret.of_T Tryd.func18 (by kernel_rfl) rfl ?_
  refine T_turn [] [0, 1] [] (mk 81 [(0, (.agg (qVal a_1))), (1, (.agg (qVal b_2)))] []) (by kernel_rfl) ?_
  refine T_reg [] [2, 3] [] (mk 81 [(2, (rf 2 0)), (3, (rf 3 0))] [(3, (.var (qVal b_2))), (2, (.var (qVal a_1)))]) _ (by kernel_rfl) (z6 zt) ?_
  refine T_seq ?_
  refine T_seqJ (α := Bool) (fun (v_3 : Bool) => (mk 81 [(2, (rf 2 0)), (3, (rf 3 0)), (43, (db (v_3)))] [(2, (.var (qVal a_1))), (3, (.var (qVal b_2)))])) (fun (v_3 : Bool) => g_ref02_Same_s_j1 a_1 b_2 rc v_3 = some r) (fun v_3 h => ?_) ?_
  refine T_cond (v_3) (by kernel_rfl) (fun b4 => ?_) (fun b4 => ?_)
  replace h := ite_t b4 h
  refine T_reg [] [4] [2, 3] (mk 81 [(4, (db false))] []) _ (by kernel_rfl) (z2 zt) ?_
  refine T_ret ?_
  obtain rfl := some_inv h
  exact ret_here [(db false)] (by kernel_rfl) (.inl rfl)
  replace h := ite_f b4 h
  refine T_skip ?_
  refine T_seqJ (α := Unit) (fun (_ : Unit) => (mk 81 [(2, (rf 2 0)), (3, (rf 3 0))] [(2, (.var (qVal a_1))), (3, (.var (qVal b_2)))])) (fun (_ : Unit) => g_ref02_Same_s_j2 a_1 b_2 rc = some r) (fun v h => ?_) ?_
  refine T_seqJ (α := Unit) (fun (_ : Unit) => (mk 81 [] [])) (fun (_ : Unit) => g_ref02_Same_s_j3 = some r) (fun v h => ?_) ?_
  refine T_reg [] [4] [] (mk 81 [(4, (db true))] []) _ (by kernel_rfl) (z2 zt) ?_
  refine T_ret ?_
  obtain rfl := some_inv h
  exact ret_here [(db true)] (by kernel_rfl) (.inl rfl)
  refine T_reg [] [2, 3, 6] [] (mk 81 [(2, (rf 2 0)), (3, (rf 3 0)), (6, (di 0))] [(2, (.var (qVal a_1))), (3, (.var (qVal b_2)))]) _ (by kernel_rfl) (z2 zt) ?_
  refine T_block ?_
  refine T_arr [] [2, 3, 6] [] [2, 3] _ (by kernel_rfl) (T_loopO (σ := Nat) (fun (i_5 : Nat) => (mk 81 [(2, (rf 2 0)), (3, (rf 3 0)), (6, (di ((i_5 : Nat) : Int)))] [(2, (.var (qVal a_1))), (3, (.var (qVal b_2)))])) (g_ref02_Same_s_l4 a_1 b_2 rc) 0 h (fun i_5 y1 hy1 h => ?_))
  refine T_seq ?_
  refine T_reg [zn, zn, zn, (zd (I ((a_1.l.length : Nat) : Int)))] [2, 3, 6, 66] [] (mk 81 [(2, (rf 2 0)), (3, (rf 3 0)), (6, (di ((i_5 : Nat) : Int))), (66, (db (decide (((i_5 : Nat) : Int) < ((a_1.l.length : Nat) : Int)))))] [(2, (.var (qVal a_1))), (3, (.var (qVal b_2)))]) _ (by kernel_rfl) (z7 (zc (len_s encVal a_1.l) (z2 zt))) ?_
  refine T_cond (decide (((i_5 : Nat) : Int) < ((a_1.l.length : Nat) : Int))) (by kernel_rfl) (fun b7 => ?_) (fun b7 => ?_)
  replace h := ite_t b7 h
  refine T_skip ?_
  refine T_seq ?_
  refine T_block ?_
  obtain ⟨x_8, e9, e10, e11, h⟩ := gn_invE encVal ndcVal encVal_nd h
  obtain ⟨x_12, e13, e14, e15, h⟩ := gn_invE encVal ndcVal encVal_nd h
  obtain ⟨r_16, e17, h⟩ := bd_inv h
  refine T_regD 12 (hl 11 [(3, (zd (ndcVal x_8))), (8, (zd (ndcVal x_12))), (10, (zd (B (r_16))))]) [2, 3, 6, 80] [] (mk 81 [(2, (rf 2 0)), (3, (rf 3 0)), (6, (di ((i_5 : Nat) : Int))), (80, (db (!(r_16))))] [(2, (.var (qVal a_1))), (3, (.var (qVal b_2)))]) _ (by kernel_rfl) (by kernel_rfl) (by kernel_rfl) (zc (z7 (zc e9 (z8 (z1 (zc e13 (z3 (zc (hrc e17) (z2 zt)))))))) zt) ?_
  refine T_cond (!(r_16)) (by kernel_rfl) (fun b18 => ?_) (fun b18 => ?_)
  replace h := ite_t b18 h
  refine T_reg [] [4] [2, 3] (mk 81 [(4, (db false))] []) _ (by kernel_rfl) (z2 zt) ?_
  refine T_ret ?_
  replace h := up_inv h hy1
  obtain rfl := some_inv h
  exact ret_here [(db false)] (by kernel_rfl) (.inl rfl)
  replace h := ite_f b18 h
  refine T_skip ?_
  obtain ⟨c19, h⟩ := ckI_inv h
  exact T_regJ [zn, (zd (I ((i_5 + 1 : Nat) : Int)))] [] [2, 3, 6] [] [2, 3] _ _ (by kernel_rfl) (z3 (zc c19 (z2 zt))) (fun s hs => Exists.intro (i_5 + 1) (And.intro h hs))
  replace h := ite_f b7 h
  refine T_exit ?_
  replace h := up_inv h hy1
  exact Exists.intro () (And.intro h (arr [] [] [2, 3] [] (by kernel_rfl)))
  refine T_reg [] [2, 3, 5] [] (mk 81 [(2, (rf 2 0)), (3, (rf 3 0)), (5, (di 0))] [(2, (.var (qVal a_1))), (3, (.var (qVal b_2)))]) _ (by kernel_rfl) (z2 zt) ?_
  refine T_block ?_
  refine T_arr [] [2, 3, 5] [] [2, 3] _ (by kernel_rfl) (T_loopO (σ := Nat) (fun (i_20 : Nat) => (mk 81 [(2, (rf 2 0)), (3, (rf 3 0)), (5, (di ((i_20 : Nat) : Int)))] [(2, (.var (qVal a_1))), (3, (.var (qVal b_2)))])) (g_ref02_Same_s_l5 a_1 b_2 rc) 0 h (fun i_20 y1 hy1 h => ?_))
  refine T_seq ?_
  refine T_reg [zn, zn, zn, (zd (I ((a_1.ks.length : Nat) : Int)))] [2, 3, 5, 48] [] (mk 81 [(2, (rf 2 0)), (3, (rf 3 0)), (5, (di ((i_20 : Nat) : Int))), (48, (db (decide (((i_20 : Nat) : Int) < ((a_1.ks.length : Nat) : Int)))))] [(2, (.var (qVal a_1))), (3, (.var (qVal b_2)))]) _ (by kernel_rfl) (z7 (zc (len_s elStr a_1.ks) (z2 zt))) ?_
  refine T_cond (decide (((i_20 : Nat) : Int) < ((a_1.ks.length : Nat) : Int))) (by kernel_rfl) (fun b22 => ?_) (fun b22 => ?_)
  replace h := ite_t b22 h
  refine T_skip ?_
  refine T_seq ?_
  refine T_block ?_
  obtain ⟨x_23, e24, e25, e26, h⟩ := gn_inv elStr h
  obtain ⟨x_27, e28, e29, e30, h⟩ := gn_inv elStr h
  refine T_regD 11 (hl 9 [(3, (zd (.str x_23))), (8, (zd (.str x_27)))]) [2, 3, 5, 61] [] (mk 81 [(2, (rf 2 0)), (3, (rf 3 0)), (5, (di ((i_20 : Nat) : Int))), (61, (db (!(x_23 == x_27))))] [(2, (.var (qVal a_1))), (3, (.var (qVal b_2)))]) _ (by kernel_rfl) (by kernel_rfl) (by kernel_rfl) (zc (z7 (zc e24 (z8 (z1 (zc e28 (z4 zt)))))) zt) ?_
  refine T_cond (!(x_23 == x_27)) (by kernel_rfl) (fun b31 => ?_) (fun b31 => ?_)
  replace h := ite_t b31 h
  refine T_reg [] [4] [2, 3] (mk 81 [(4, (db false))] []) _ (by kernel_rfl) (z2 zt) ?_
  refine T_ret ?_
  replace h := up_inv h hy1
  obtain rfl := some_inv h
  exact ret_here [(db false)] (by kernel_rfl) (.inl rfl)
  replace h := ite_f b31 h
  refine T_skip ?_
  obtain ⟨c32, h⟩ := ckI_inv h
  exact T_regJ [zn, (zd (I ((i_20 + 1 : Nat) : Int)))] [] [2, 3, 5] [] [2, 3] _ _ (by kernel_rfl) (z3 (zc c32 (z2 zt))) (fun s hs => Exists.intro (i_20 + 1) (And.intro h hs))
  replace h := ite_f b22 h
  refine T_exit ?_
  replace h := up_inv h hy1
  exact Exists.intro () (And.intro h (arr [] [2, 3] [] [2, 3] (by kernel_rfl)))
  rcases Bool.eq_false_or_eq_true (a_1.k != b_2.k) with b33 | b33
  replace h := ite_t b33 h
  exact T_regJ [zn, zn, zn, zn, zn, zn, zg, zg, zg, zg, zg, (zd (B true)), zn, zg, zg, zg, zg, zg, (zd (B true)), zn, zg, zg, zg, zg, zg, zg, zg, (zd (B true)), zn, zg, zg, zg, zg, zg, zg, zg, (zd (B true))] [] [2, 3, 43] [] [2, 3] _ _ (by kernel_rfl) (z8 (z4 (zc (gd_tf b33) (zc (gd_tf b33) (zc (gd_tf b33) (zc (gd_tf b33) (zc (gd_tf b33) (z1 (zc b33 (z2 (zc (gd_tf (rfl : true = true)) (zc (gd_tf (rfl : true = true)) (zc (gd_tf (rfl : true = true)) (zc (gd_tf (rfl : true = true)) (zc (gd_tf (rfl : true = true)) (z1 (zc (rfl : true = true) (z2 (zc (gd_tf (rfl : true = true)) (zc (gd_tf (rfl : true = true)) (zc (gd_tf (rfl : true = true)) (zc (gd_tf (rfl : true = true)) (zc (gd_tf (rfl : true = true)) (zc (gd_tf (rfl : true = true)) (zc (gd_tf (rfl : true = true)) (z1 (zc (rfl : true = true) (z2 (zc (gd_tf (rfl : true = true)) (zc (gd_tf (rfl : true = true)) (zc (gd_tf (rfl : true = true)) (zc (gd_tf (rfl : true = true)) (zc (gd_tf (rfl : true = true)) (zc (gd_tf (rfl : true = true)) (zc (gd_tf (rfl : true = true)) (z1 (zc (rfl : true = true) zt))))))))))))))))))))))))))))))))))))) (fun s hs => Exists.intro true (And.intro h hs))
  replace h := ite_f b33 h
  rcases Bool.eq_false_or_eq_true (a_1.n != b_2.n) with b34 | b34
  replace h := ite_t b34 h
  exact T_regJ [zn, zn, zn, zn, zn, zn, zn, zn, zn, zn, zn, (zd (B false)), zn, zg, zg, zg, zg, zg, (zd (B true)), zn, zg, zg, zg, zg, zg, zg, zg, (zd (B true)), zn, zg, zg, zg, zg, zg, zg, zg, (zd (B true))] [] [2, 3, 43] [] [2, 3] _ _ (by kernel_rfl) (z8 (z4 (zc (gd_ff b33) (z1 (zc (gd_ff b33) (z1 (zc (gd_ff b33) (z1 (zc (gd_ff b33) (z1 (zc (gd_ff b33) (z2 (zc b33 (z2 (zc (gd_tf b34) (zc (gd_tf b34) (zc (gd_tf b34) (zc (gd_tf b34) (zc (gd_tf b34) (z1 (zc b34 (z2 (zc (gd_tf (rfl : true = true)) (zc (gd_tf (rfl : true = true)) (zc (gd_tf (rfl : true = true)) (zc (gd_tf (rfl : true = true)) (zc (gd_tf (rfl : true = true)) (zc (gd_tf (rfl : true = true)) (zc (gd_tf (rfl : true = true)) (z1 (zc (rfl : true = true) (z2 (zc (gd_tf (rfl : true = true)) (zc (gd_tf (rfl : true = true)) (zc (gd_tf (rfl : true = true)) (zc (gd_tf (rfl : true = true)) (zc (gd_tf (rfl : true = true)) (zc (gd_tf (rfl : true = true)) (zc (gd_tf (rfl : true = true)) (z1 (zc (rfl : true = true) zt))))))))))))))))))))))))))))))))))))))))) (fun s hs => Exists.intro true (And.intro h hs))
  replace h := ite_f b34 h
  rcases Bool.eq_false_or_eq_true (!(a_1.s == b_2.s)) with b35 | b35
  replace h := ite_t b35 h
  exact T_regJ [zn, zn, zn, zn, zn, zn, zn, zn, zn, zn, zn, (zd (B false)), zn, zn, zn, zn, zn, zn, (zd (B false)), zn, zg, zg, zg, zg, zg, zg, zg, (zd (B true)), zn, zg, zg, zg, zg, zg, zg, zg, (zd (B true))] [] [2, 3, 43] [] [2, 3] _ _ (by kernel_rfl) (z8 (z4 (zc (gd_ff b33) (z1 (zc (gd_ff b33) (z1 (zc (gd_ff b33) (z1 (zc (gd_ff b33) (z1 (zc (gd_ff b33) (z2 (zc b33 (z2 (zc (gd_ff b34) (z1 (zc (gd_ff b34) (z1 (zc (gd_ff b34) (z1 (zc (gd_ff b34) (z1 (zc (gd_ff b34) (z2 (zc b34 (z2 (zc (gd_tf b35) (zc (gd_tf b35) (zc (gd_tf b35) (zc (gd_tf b35) (zc (gd_tf b35) (zc (gd_tf b35) (zc (gd_tf b35) (z1 (zc b35 (z2 (zc (gd_tf (rfl : true = true)) (zc (gd_tf (rfl : true = true)) (zc (gd_tf (rfl : true = true)) (zc (gd_tf (rfl : true = true)) (zc (gd_tf (rfl : true = true)) (zc (gd_tf (rfl : true = true)) (zc (gd_tf (rfl : true = true)) (z1 (zc (rfl : true = true) zt))))))))))))))))))))))))))))))))))))))))))))) (fun s hs => Exists.intro true (And.intro h hs))
  replace h := ite_f b35 h
  rcases Bool.eq_false_or_eq_true (((a_1.l.length : Nat) : Int) != ((b_2.l.length : Nat) : Int)) with b36 | b36
  replace h := ite_t b36 h
  exact T_regJ (hl 37 [(11, (zd (B false))), (18, (zd (B false))), (22, (zd (I ((a_1.l.length : Nat) : Int)))), (25, (zd (I ((b_2.l.length : Nat) : Int)))), (27, (zd (B false))), (29, zg), (30, zg), (31, zg), (32, zg), (33, zg), (34, zg), (35, zg), (36, (zd (B true)))]) [] [2, 3, 43] [] [2, 3] _ _ (by kernel_rfl) (z8 (z4 (zc (gd_ff b33) (z1 (zc (gd_ff b33) (z1 (zc (gd_ff b33) (z1 (zc (gd_ff b33) (z1 (zc (gd_ff b33) (z2 (zc b33 (z2 (zc (gd_ff b34) (z1 (zc (gd_ff b34) (z1 (zc (gd_ff b34) (z1 (zc (gd_ff b34) (z1 (zc (gd_ff b34) (z2 (zc b34 (z2 (zc (gd_ff b35) (z1 (zc (gd_ff b35) (z1 (zc (gd_ff b35) (zc (len_s encVal a_1.l) (zc (gd_ff b35) (z1 (zc (gd_ff b35) (z1 (zc (gd_ff b35) (zc (len_s encVal b_2.l) (zc (gd_ff b35) (z2 (zc b35 (z2 (zc (gd_tf b36) (zc (gd_tf b36) (zc (gd_tf b36) (zc (gd_tf b36) (zc (gd_tf b36) (zc (gd_tf b36) (zc (gd_tf b36) (z1 (zc b36 zt))))))))))))))))))))))))))))))))))))))))))))))))))) (fun s hs => Exists.intro true (And.intro h hs))
  replace h := ite_f b36 h
  exact T_regJ (hl 37 [(11, (zd (B false))), (18, (zd (B false))), (22, (zd (I ((a_1.l.length : Nat) : Int)))), (25, (zd (I ((b_2.l.length : Nat) : Int)))), (27, (zd (B false))), (31, (zd (I ((a_1.ks.length : Nat) : Int)))), (34, (zd (I ((b_2.ks.length : Nat) : Int)))), (36, (zd (B false)))]) [] [2, 3, 43] [] [2, 3] _ _ (by kernel_rfl) (z8 (z4 (zc (gd_ff b33) (z1 (zc (gd_ff b33) (z1 (zc (gd_ff b33) (z1 (zc (gd_ff b33) (z1 (zc (gd_ff b33) (z2 (zc b33 (z2 (zc (gd_ff b34) (z1 (zc (gd_ff b34) (z1 (zc (gd_ff b34) (z1 (zc (gd_ff b34) (z1 (zc (gd_ff b34) (z2 (zc b34 (z2 (zc (gd_ff b35) (z1 (zc (gd_ff b35) (z1 (zc (gd_ff b35) (zc (len_s encVal a_1.l) (zc (gd_ff b35) (z1 (zc (gd_ff b35) (z1 (zc (gd_ff b35) (zc (len_s encVal b_2.l) (zc (gd_ff b35) (z2 (zc b35 (z2 (zc (gd_ff b36) (z1 (zc (gd_ff b36) (z1 (zc (gd_ff b36) (zc (len_s elStr a_1.ks) (zc (gd_ff b36) (z1 (zc (gd_ff b36) (z1 (zc (gd_ff b36) (zc (len_s elStr b_2.ks) (zc (gd_ff b36) (z2 (zc b36 zt))))))))))))))))))))))))))))))))))))))))))))))))))))))))) (fun s hs => Exists.intro (((a_1.ks.length : Nat) : Int) != ((b_2.ks.length : Nat) : Int)) (And.intro h hs))
theorem g_ref02_Same_ret : ∀ {fu : Nat} {a_1 : Val} {b_2 : Val} {r : Bool}, g_ref02_Same fu a_1 b_2 = some r → Ret Tryd.prog 18 [(ndcVal a_1), (ndcVal b_2)] (B (r))
  | 0, _, _, _, h => by cases h
  | fu + 1, _, _, _, h => g_ref02_Same_s_ret (fun {_} {_} {_} h => g_ref02_Same_ret h) h

theorem g_slices_Index_Lstring_string_ret {s_1 : List ((List UInt8))} {v_2 : List UInt8} {r : Int} (h : g_slices_Index_Lstring_string s_1 v_2 = some r) : Ret Tryd.prog 35 [(.sl 1 (s_1.map elStr)), (.str v_2)] (I r) := by
  refine Ret.of_T Tryd.func35 (by kernel_rfl) rfl ?_
  refine T_turn [] [0, 1] [] (mk 19 [(0, (dt (.sl 1 (s_1.map elStr)))), (1, (dt (.str v_2)))] []) (by kernel_rfl) ?_
  refine T_reg [] [0, 1] [] (mk 19 [(0, (dt (.sl 1 (s_1.map elStr)))), (1, (dt (.str v_2)))] []) _ (by kernel_rfl) (z2 zt) ?_
  refine T_seqJ (α := Unit) (fun (_ : Unit) => (mk 19 [] [])) (fun (_ : Unit) => g_slices_Index_Lstring_string_j1 = some r) (fun v h => ?_) ?_
  refine T_reg [] [4] [] (mk 19 [(4, (di (-1)))] []) _ (by kernel_rfl) (z2 zt) ?_
  refine T_ret ?_
  obtain rfl := some_inv h
  exact ret_here [(di (-1))] (by kernel_rfl) (.inl rfl)
  refine T_reg [zn, (zd (I ((s_1.length : Nat) : Int)))] [0, 1, 7, 8] [] (mk 19 [(0, (dt (.sl 1 (s_1.map elStr)))), (1, (dt (.str v_2))), (7, (di ((s_1.length : Nat) : Int))), (8, (di 0))] []) _ (by kernel_rfl) (z3 (zc (len_s elStr s_1) (z2 zt))) ?_
  refine T_block ?_
  refine T_arr [] [0, 1, 7, 8] [] [] _ (by kernel_rfl) (T_loopO (σ := Nat) (fun (v_3 : Nat) => (mk 19 [(0, (dt (.sl 1 (s_1.map elStr)))), (1, (dt (.str v_2))), (7, (di ((s_1.length : Nat) : Int))), (8, (di ((v_3 : Nat) : Int)))] [])) (g_slices_Index_Lstring_string_l2 s_1 v_2) 0 h (fun v_3 y1 hy1 h => ?_))
  refine T_reg [] [0, 1, 7, 8, 9] [] (mk 19 [(0, (dt (.sl 1 (s_1.map elStr)))), (1, (dt (.str v_2))), (7, (di ((s_1.length : Nat) : Int))), (8, (di ((v_3 : Nat) : Int))), (9, (db (decide (((v_3 : Nat) : Int) < ((s_1.length : Nat) : Int)))))] []) _ (by kernel_rfl) (z2 zt) ?_
  refine T_seq ?_
  refine T_cond (decide (((v_3 : Nat) : Int) < ((s_1.length : Nat) : Int))) (by kernel_rfl) (fun b5 => ?_) (fun b5 => ?_)
  replace h := ite_t b5 h
  refine T_skip ?_
  refine T_seq ?_
  refine T_block ?_
  refine T_reg [] [0, 1, 5, 7, 8] [] (mk 19 [(0, (dt (.sl 1 (s_1.map elStr)))), (1, (dt (.str v_2))), (5, (di ((v_3 : Nat) : Int))), (7, (di ((s_1.length : Nat) : Int))), (8, (di ((v_3 : Nat) : Int)))] []) _ (by kernel_rfl) (z4 zt) ?_
  obtain ⟨x_6, e7, e8, e9, h⟩ := gn_inv elStr h
  refine T_reg [zn, zn, zn, (zd (.str x_6))] [0, 1, 5, 7, 8, 16] [] (mk 19 [(0, (dt (.sl 1 (s_1.map elStr)))), (1, (dt (.str v_2))), (5, (di ((v_3 : Nat) : Int))), (7, (di ((s_1.length : Nat) : Int))), (8, (di ((v_3 : Nat) : Int))), (16, (db (v_2 == x_6)))] []) _ (by kernel_rfl) (z7 (zc e7 (z4 zt))) ?_
  refine T_cond (v_2 == x_6) (by kernel_rfl) (fun b10 => ?_) (fun b10 => ?_)
  replace h := ite_t b10 h
  refine T_reg [] [4] [] (mk 19 [(4, (di ((v_3 : Nat) : Int)))] []) _ (by kernel_rfl) (z4 zt) ?_
  refine T_ret ?_
  replace h := up_inv h hy1
  obtain rfl := some_inv h
  exact ret_here [(di ((v_3 : Nat) : Int))] (by kernel_rfl) (.inl rfl)
  replace h := ite_f b10 h
  refine T_skip ?_
  obtain ⟨c11, h⟩ := ckI_inv h
  exact T_regJ [(zd (I ((v_3 + 1 : Nat) : Int)))] [] [0, 1, 7, 8] [] [] _ _ (by kernel_rfl) (z1 (zc c11 (z2 zt))) (fun s hs => Exists.intro (v_3 + 1) (And.intro h hs))
  replace h := ite_f b5 h
  refine T_exit ?_
  replace h := up_inv h hy1
  exact Exists.intro () (And.intro h (arr [] [] [] [] (by kernel_rfl)))

theorem g_codec_Get_ret {v_1 : Val} {key_2 : List UInt8} {r : Val × Bool} (h : g_codec_Get v_1 key_2 = some r) : Ret Tryd.prog 19 [(ndcVal v_1), (.str key_2)] (.tup [(ndcVal r.1), (B (r.2))]) := by
  refine Ret.of_T Tryd.func19 (by kernel_rfl) rfl ?_
  refine T_turn [] [0, 1] [] (mk 31 [(0, (.agg (qVal v_1))), (1, (dt (.str key_2)))] []) (by kernel_rfl) ?_
  refine T_reg [] [1, 2, 4] [] (mk 31 [(1, (dt (.str key_2))), (2, (rf 2 0)), (4, (rf 4 0))] [(4, (.var [(.dat (I 0)), (.dat (I 0)), (.dat (.str ([] : List UInt8))), (.dat nilS), (.dat nilS)])), (2, (.var (qVal v_1)))]) _ (by kernel_rfl) (z6 zt) ?_
  obtain ⟨r_3, e4, h⟩ := bd_inv h
  refine T_reg [zn, zn, zn, (zd (I r_3))] [2, 4, 6] [] (mk 31 [(2, (rf 2 0)), (4, (rf 4 0)), (6, (di r_3))] [(4, (.var [(.dat (I 0)), (.dat (I 0)), (.dat (.str ([] : List UInt8))), (.dat nilS), (.dat nilS)])), (2, (.var (qVal v_1)))]) _ (by kernel_rfl) (z7 (zc (g_slices_Index_Lstring_string_ret e4) (z2 zt))) ?_
  refine T_seq ?_
  refine T_seqJ (α := Bool) (fun (v_5 : Bool) => (mk 31 [(2, (rf 2 0)), (4, (rf 4 0)), (6, (di r_3)), (24, (db (v_5)))] [(2, (.var (qVal v_1))), (4, (.var [(.dat (I 0)), (.dat (I 0)), (.dat (.str ([] : List UInt8))), (.dat nilS), (.dat nilS)]))])) (fun (v_5 : Bool) => g_codec_Get_j1 v_1 r_3 v_5 = some r) (fun v_5 h => ?_) ?_
  refine T_cond (v_5) (by kernel_rfl) (fun b6 => ?_) (fun b6 => ?_)
  replace h := ite_t b6 h
  refine T_reg [] [4, 5] [2] (mk 31 [(4, (rf 4 0)), (5, (db false))] [(4, (.var [(.dat (I 0)), (.dat (I 0)), (.dat (.str ([] : List UInt8))), (.dat nilS), (.dat nilS)]))]) _ (by kernel_rfl) (z6 zt) ?_
  refine T_ret ?_
  obtain rfl := some_inv h
  exact ret_here [(.agg [(.dat (I 0)), (.dat (I 0)), (.dat (.str ([] : List UInt8))), (.dat nilS), (.dat nilS)]), (db false)] (by kernel_rfl) ⟨⟨(.inl rfl), (.inl rfl), (.inl rfl), (.inr ⟨rfl, 5, rfl⟩), (.inr ⟨rfl, 1, rfl⟩), trivial⟩, (.inl rfl), trivial⟩
  replace h := ite_f b6 h
  refine T_skip ?_
  obtain ⟨x_7, e8, e9, e10, h⟩ := gt_invE encVal ndcVal encVal_nd h
  refine T_reg [zn, zn, zn, (zd (ndcVal x_7))] [4, 5] [2] (mk 31 [(4, (rf 4 0)), (5, (db true))] [(4, (.var (qVal x_7)))]) _ (by kernel_rfl) (z7 (zc e8 (z6 zt))) ?_
  refine T_ret ?_
  obtain rfl := some_inv h
  exact ret_here [(.agg (qVal x_7)), (db true)] (by kernel_rfl) ⟨⟨(.inl rfl), (.inl rfl), (.inl rfl), (.inl rfl), (.inl rfl), trivial⟩, (.inl rfl), trivial⟩
  rcases Bool.eq_false_or_eq_true (v_1.k != 4) with b11 | b11
  replace h := ite_t b11 h
  exact T_regJ [zn, zn, zn, zn, zg, zg, (zd (B true)), zn, zg, zg, zg, zg, zg, (zd (B true))] [] [2, 4, 6, 24] [] [2, 4] _ _ (by kernel_rfl) (z8 (zc (gd_tf b11) (zc (gd_tf b11) (z1 (zc b11 (z2 (zc (gd_tf (rfl : true = true)) (zc (gd_tf (rfl : true = true)) (zc (gd_tf (rfl : true = true)) (zc (gd_tf (rfl : true = true)) (zc (gd_tf (rfl : true = true)) (z1 (zc (rfl : true = true) zt))))))))))))) (fun s hs => Exists.intro true (And.intro h hs))
  replace h := ite_f b11 h
  rcases Bool.eq_false_or_eq_true (decide (r_3 < 0)) with b12 | b12
  replace h := ite_t b12 h
  exact T_regJ [zn, zn, zn, zn, zn, zn, (zd (B false)), zn, zg, zg, zg, zg, zg, (zd (B true))] [] [2, 4, 6, 24] [] [2, 4] _ _ (by kernel_rfl) (z8 (zc (gd_ff b11) (z1 (zc (gd_ff b11) (z2 (zc b11 (z2 (zc (gd_tf b12) (zc (gd_tf b12) (zc (gd_tf b12) (zc (gd_tf b12) (zc (gd_tf b12) (z1 (zc b12 zt)))))))))))))) (fun s hs => Exists.intro true (And.intro h hs))
  replace h := ite_f b12 h
  exact T_regJ (hl 14 [(6, (zd (B false))), (11, (zd (I ((v_1.l.length : Nat) : Int)))), (13, (zd (B false)))]) [] [2, 4, 6, 24] [] [2, 4] _ _ (by kernel_rfl) (z8 (zc (gd_ff b11) (z1 (zc (gd_ff b11) (z2 (zc b11 (z2 (zc (gd_ff b12) (z1 (zc (gd_ff b12) (z1 (zc (gd_ff b12) (z1 (zc (gd_ff b12) (zc (len_s encVal v_1.l) (zc (gd_ff b12) (z2 (zc b12 zt)))))))))))))))))) (fun s hs => Exists.intro (decide (r_3 ≥ ((v_1.l.length : Nat) : Int))) (And.intro h hs))

theorem g_ref02_List_ret {l_1 : List Val} {r : Val} (h : g_ref02_List l_1 = some r) : Ret Tryd.prog 22 [(.sl 5 (l_1.map encVal))] (ndcVal r) := by
  refine Ret.of_T Tryd.func22 (by kernel_rfl) rfl ?_
  refine T_turn [] [0] [] (mk 5 [(0, (dt (.sl 5 (l_1.map encVal))))] []) (by kernel_rfl) ?_
  refine T_reg [] [0, 2] [] (mk 5 [(0, (dt (.sl 5 (l_1.map encVal)))), (2, (rf 2 0))] [(2, (.var [(.dat (I 0)), (.dat (I 0)), (.dat (.str ([] : List UInt8))), (.dat nilS), (.dat nilS)]))]) _ (by kernel_rfl) (z2 zt) ?_
  refine T_reg [] [2] [] (mk 5 [(2, (rf 2 0))] [(2, (.var [(.dat (I 3)), (.dat (I 0)), (.dat (.str ([] : List UInt8))), (.dat (.sl 5 (l_1.map encVal))), (.dat nilS)]))]) _ (by kernel_rfl) (z6 zt) ?_
  refine T_ret ?_
  obtain rfl := some_inv h
  exact ret_here [(.agg [(.dat (I 3)), (.dat (I 0)), (.dat (.str ([] : List UInt8))), (.dat (.sl 5 (l_1.map encVal))), (.dat nilS)])] (by kernel_rfl) ⟨(.inl rfl), (.inl rfl), (.inl rfl), (.inl rfl), (.inr ⟨rfl, 1, rfl⟩), trivial⟩

theorem g_ref02_Int_ret {n_1 : Int} {r : Val} (h : g_ref02_Int n_1 = some r) : Ret Tryd.prog 23 [(I n_1)] (ndcVal r) := by
  refine Ret.of_T Tryd.func23 (by kernel_rfl) rfl ?_
  refine T_turn [] [0] [] (mk 5 [(0, (di n_1))] []) (by kernel_rfl) ?_
  refine T_reg [] [0, 2] [] (mk 5 [(0, (di n_1)), (2, (rf 2 0))] [(2, (.var [(.dat (I 0)), (.dat (I 0)), (.dat (.str ([] : List UInt8))), (.dat nilS), (.dat nilS)]))]) _ (by kernel_rfl) (z2 zt) ?_
  refine T_reg [] [2] [] (mk 5 [(2, (rf 2 0))] [(2, (.var [(.dat (I 1)), (.dat (I n_1)), (.dat (.str ([] : List UInt8))), (.dat nilS), (.dat nilS)]))]) _ (by kernel_rfl) (z6 zt) ?_
  refine T_ret ?_
  obtain rfl := some_inv h
  exact ret_here [(.agg [(.dat (I 1)), (.dat (I n_1)), (.dat (.str ([] : List UInt8))), (.dat nilS), (.dat nilS)])] (by kernel_rfl) ⟨(.inl rfl), (.inl rfl), (.inl rfl), (.inr ⟨rfl, 5, rfl⟩), (.inr ⟨rfl, 1, rfl⟩), trivial⟩

theorem g_ref02_Text_ret {s_1 : List UInt8} {r : Val} (h : g_ref02_Text s_1 = some r) : Ret Tryd.prog 24 [(.str s_1)] (ndcVal r) := by
  refine Ret.of_T Tryd.func24 (by kernel_rfl) rfl ?_
  refine T_turn [] [0] [] (mk 5 [(0, (dt (.str s_1)))] []) (by kernel_rfl) ?_
  refine T_reg [] [0, 2] [] (mk 5 [(0, (dt (.str s_1))), (2, (rf 2 0))] [(2, (.var [(.dat (I 0)), (.dat (I 0)), (.dat (.str ([] : List UInt8))), (.dat nilS), (.dat nilS)]))]) _ (by kernel_rfl) (z2 zt) ?_
  refine T_reg [] [2] [] (mk 5 [(2, (rf 2 0))] [(2, (.var [(.dat (I 2)), (.dat (I 0)), (.dat (.str s_1)), (.dat nilS), (.dat nilS)]))]) _ (by kernel_rfl) (z6 zt) ?_
  refine T_ret ?_
  obtain rfl := some_inv h
  exact ret_here [(.agg [(.dat (I 2)), (.dat (I 0)), (.dat (.str s_1)), (.dat nilS), (.dat nilS)])] (by kernel_rfl) ⟨(.inl rfl), (.inl rfl), (.inl rfl), (.inr ⟨rfl, 5, rfl⟩), (.inr ⟨rfl, 1, rfl⟩), trivial⟩

theorem g_ref02_Digits_s_ret {rc : (Int) → Option (List UInt8)} (hrc : ∀ {n_1 : Int} {r : List UInt8}, rc n_1 = some r → Ret Tryd.prog 55 [(.int .u64 n_1)] (.str r)) {n_1 : Int} {r : List UInt8} (h : g_ref02_Digits_s rc n_1 = some r) : Ret Tryd.prog 55 [(.int .u64 n_1)] (.str r) := by
  refine Ret.of_T Tryd.func55 (by kernel_rfl) rfl ?_
  refine T_turn [] [0] [] (mk 19 [(0, (dt (.int .u64 n_1)))] []) (by kernel_rfl) ?_
  refine T_reg [] [0] [] (mk 19 [(0, (dt (.int .u64 n_1)))] []) _ (by kernel_rfl) (z2 zt) ?_
  refine T_reg [] [0, 3] [] (mk 19 [(0, (dt (.int .u64 n_1))), (3, (dt (.int .u64 (n_1.tmod 10))))] []) _ (by kernel_rfl) (z3 (zc (And.intro (show (10 : Int) ≠ 0 by decide) trivial) (z2 zt))) ?_
  obtain ⟨s_2, e3, h⟩ := sbs_inv h
  refine T_reg [zn, zn, zn, (zd (.str s_2))] [0, 4] [] (mk 19 [(0, (dt (.int .u64 n_1))), (4, (dt (.str s_2)))] []) _ (by kernel_rfl) (z7 (zc e3 (z2 zt))) ?_
  refine T_seq ?_
  refine T_reg [] [0, 4, 12] [] (mk 19 [(0, (dt (.int .u64 n_1))), (4, (dt (.str s_2))), (12, (db (decide (n_1 < 10))))] []) _ (by kernel_rfl) (z4 zt) ?_
  refine T_cond (decide (n_1 < 10)) (by kernel_rfl) (fun b4 => ?_) (fun b4 => ?_)
  replace h := ite_t b4 h
  refine T_reg [] [2] [] (mk 19 [(2, (dt (.str s_2)))] []) _ (by kernel_rfl) (z4 zt) ?_
  refine T_ret ?_
  obtain rfl := some_inv h
  exact ret_here [(dt (.str s_2))] (by kernel_rfl) (.inl rfl)
  replace h := ite_f b4 h
  refine T_skip ?_
  obtain ⟨r_5, e6, h⟩ := bd_inv h
  obtain ⟨c7, h⟩ := ck_inv h
  refine T_reg [zn, zn, (zd (.str r_5))] [2] [] (mk 19 [(2, (dt (.str (r_5 ++ s_2))))] []) _ (by kernel_rfl) (z3 (zc (And.intro (show (10 : Int) ≠ 0 by decide) trivial) (z1 (zc (hrc e6) (z3 (zc c7 (z2 zt))))))) ?_
  refine T_ret ?_
  obtain rfl := some_inv h
  exact ret_here [(dt (.str (r_5 ++ s_2)))] (by kernel_rfl) (.inl rfl)
theorem g_ref02_Digits_ret : ∀ {fu : Nat} {n_1 : Int} {r : List UInt8}, g_ref02_Digits fu n_1 = some r → Ret Tryd.prog 55 [(.int .u64 n_1)] (.str r)
  | 0, _, _, h => by cases h
  | fu + 1, _, _, h => g_ref02_Digits_s_ret (fun {_} {_} h => g_ref02_Digits_ret h) h

theorem g_ref02_Decimal_ret {n_1 : Int} {r : List UInt8} (h : g_ref02_Decimal n_1 = some r) : Ret Tryd.prog 45 [(I n_1)] (.str r) := by
  refine Ret.of_T Tryd.func45 (by kernel_rfl) rfl ?_
  refine T_turn [] [0] [] (mk 15 [(0, (di n_1))] []) (by kernel_rfl) ?_
  refine T_reg [] [0] [] (mk 15 [(0, (di n_1))] []) _ (by kernel_rfl) (z2 zt) ?_
  refine T_seq ?_
  refine T_reg [] [0, 4] [] (mk 15 [(0, (di n_1)), (4, (db (decide (n_1 < 0))))] []) _ (by kernel_rfl) (z4 zt) ?_
  refine T_cond (decide (n_1 < 0)) (by kernel_rfl) (fun b2 => ?_) (fun b2 => ?_)
  replace h := ite_t b2 h
  obtain ⟨c3, h⟩ := ckI_inv h
  obtain ⟨c4, h⟩ := ckI_inv h
  obtain ⟨r_5, e6, h⟩ := bd_inv h
  obtain ⟨c7, h⟩ := ck_inv h
  refine T_reg [zn, (zd (I (n_1 + 1))), (zd (I (0 - (n_1 + 1)))), zn, zn, (zd (.str r_5))] [2] [] (mk 15 [(2, (dt (.str (([45] : List UInt8) ++ r_5))))] []) _ (by kernel_rfl) (z3 (zc c3 (z1 (zc c4 (z5 (zc (g_ref02_Digits_ret e6) (z1 (zc c7 (z2 zt))))))))) ?_
  refine T_ret ?_
  obtain rfl := some_inv h
  exact ret_here [(dt (.str (([45] : List UInt8) ++ r_5)))] (by kernel_rfl) (.inl rfl)
  replace h := ite_f b2 h
  refine T_skip ?_
  obtain ⟨r_8, e9, h⟩ := bd_inv h
  refine T_reg [zn, zn, (zd (.str r_8))] [2] [] (mk 15 [(2, (dt (.str r_8)))] []) _ (by kernel_rfl) (z5 (zc (g_ref02_Digits_ret e9) (z2 zt))) ?_
  refine T_ret ?_
  obtain rfl := some_inv h
  exact ret_here [(dt (.str r_8))] (by kernel_rfl) (.inl rfl)

theorem g_ref02_text_ret {s_1 : List UInt8} {r : List UInt8} (h : g_ref02_text s_1 = some r) : Ret Tryd.prog 46 [(.str s_1)] (.sl 1 (r.map elB)) := by
  refine Ret.of_T Tryd.func46 (by kernel_rfl) rfl ?_
  refine T_turn [] [0] [] (mk 11 [(0, (dt (.str s_1)))] []) (by kernel_rfl) ?_
  refine T_reg [] [0] [] (mk 11 [(0, (dt (.str s_1)))] []) _ (by kernel_rfl) (z2 zt) ?_
  obtain ⟨r_2, e3, h⟩ := bd_inv h
  obtain ⟨c4, h⟩ := ck_inv h
  refine T_seq (T_parts ?_)
  refine TL_part 5 [zn, zn, zn, (zd (.str r_2))] (mk 11 [(0, (dt (.str s_1))), (3, (dt (.str s_1))), (4, (di ((s_1.length : Nat) : Int))), (5, (dt (.int .u64 (IntKind.u64.wrap ((s_1.length : Nat) : Int))))), (6, (dt (.str r_2))), (7, (dt (.str (r_2 ++ ([58] : List UInt8)))))] []) _ (by kernel_rfl) (z7 (zc (g_ref02_Digits_ret e3) (z1 (zc c4 zt)))) rfl ?_
  obtain ⟨c5, h⟩ := ck_inv h
  refine TL_bytes 9 28 5 8 8 (r_2 ++ ([58] : List UInt8)) rfl rfl rfl (by kernel_rfl) (by kernel_rfl) (by kernel_rfl) (by kernel_rfl) c5 (by kernel_rfl) ?_
  refine TL_turn [] [0, 8] [] (mk 11 [(0, (dt (.str s_1))), (8, (ow 8))] [(8, (.obj (rowM 5 ((r_2 ++ ([58] : List UInt8))))))]) (by kernel_rfl) ?_
  refine TL_part 1 [] (mk 11 [(0, (dt (.str s_1))), (8, (ow 8)), (9, (dt (.str s_1)))] [(8, (.obj (rowM 5 ((r_2 ++ ([58] : List UInt8))))))]) _ (by kernel_rfl) (z2 zt) rfl ?_
  obtain ⟨c6, h⟩ := ck_inv h
  refine TL_appM 28 9 5 10 8 10 (r_2 ++ ([58] : List UInt8)) s_1 rfl rfl rfl (by kernel_rfl) (by kernel_rfl) (by kernel_rfl) (by kernel_rfl) (.inr ⟨by kernel_rfl, by kernel_rfl⟩) c6 (by kernel_rfl) ?_
  refine TL_turn [] [10] [] (mk 11 [(10, (ow 10))] [(10, (.obj (rowM 5 (((r_2 ++ ([58] : List UInt8)) ++ s_1)))))]) (by kernel_rfl) ?_
  refine TL_part 1 [] (mk 11 [(2, (ow 10)), (10, (ow 10))] [(10, (.obj (rowM 5 (((r_2 ++ ([58] : List UInt8)) ++ s_1)))))]) _ (by kernel_rfl) (z2 zt) rfl ?_
  refine TL_nilQ ?_
  refine T_turn [] [2] [] (mk 11 [(2, (ow 10))] [(10, (.obj (rowM 5 (((r_2 ++ ([58] : List UInt8)) ++ s_1)))))]) (by kernel_rfl) ?_
  refine T_frzM (e := 5) (bs := ((r_2 ++ ([58] : List UInt8)) ++ s_1)) 10 (mk 11 [(2, (dt (.sl 1 (((r_2 ++ ([58] : List UInt8)) ++ s_1).map elB))))] []) (by kernel_rfl) (by kernel_rfl) ?_
  refine T_ret ?_
  obtain rfl := some_inv h
  exact ret_here [(dt (.sl 1 (((r_2 ++ ([58] : List UInt8)) ++ s_1).map elB)))] (by kernel_rfl) (.inl rfl)

theorem g_ref02_encode_s_ret {rc : (Val) → Option (List UInt8)} (hrc : ∀ {v_1 : Val} {r : List UInt8}, rc v_1 = some r → Ret Tryd.prog 27 [(ndcVal v_1)] (.sl 1 (r.map elB))) {v_1 : Val} {r : List UInt8} (h : g_ref02_encode_s rc v_1 = some r) : Ret Tryd.prog 27 [(ndcVal v_1)] (.sl 1 (r.map elB)) := by
  refine Ret.of_T Tryd.func27 (by kernel_rfl) rfl ?_
  refine T_turn [] [0] [] (mk 56 [(0, (.agg (qVal v_1)))] []) (by kernel_rfl) ?_
  refine T_reg [] [1] [] (mk 56 [(1, (rf 1 0))] [(1, (.var (qVal v_1)))]) _ (by kernel_rfl) (z4 zt) ?_
  refine T_seq ?_
  refine T_reg [] [1, 6] [] (mk 56 [(1, (rf 1 0)), (6, (di v_1.k))] [(1, (.var (qVal v_1)))]) _ (by kernel_rfl) (z4 zt) ?_
  refine T_block ?_
  refine T_reg [] [1, 6, 7] [] (mk 56 [(1, (rf 1 0)), (6, (di v_1.k)), (7, (db (v_1.k == 1)))] [(1, (.var (qVal v_1)))]) _ (by kernel_rfl) (z4 zt) ?_
  refine T_cond (v_1.k == 1) (by kernel_rfl) (fun b2 => ?_) (fun b2 => ?_)
  replace h := ite_t b2 h
  obtain ⟨r_3, e4, h⟩ := bd_inv h
  obtain ⟨c5, h⟩ := ck_inv h
  obtain ⟨c6, h⟩ := ck_inv h
  refine T_seq (T_parts ?_)
  refine TL_part 5 [zn, zn, (zd (.str r_3))] (mk 56 [(1, (rf 1 0)), (6, (di v_1.k)), (7, (db (v_1.k == 1))), (9, (rf 1 1)), (10, (di v_1.n)), (11, (dt (.str r_3))), (12, (dt (.str (([105] : List UInt8) ++ r_3)))), (13, (dt (.str ((([105] : List UInt8) ++ r_3) ++ ([101] : List UInt8)))))] [(1, (.var (qVal v_1)))]) _ (by kernel_rfl) (z5 (zc (g_ref02_Decimal_ret e4) (z1 (zc c5 (z1 (zc c6 zt)))))) rfl ?_
  obtain ⟨c7, h⟩ := ck_inv h
  refine TL_bytes 9 28 5 14 14 ((([105] : List UInt8) ++ r_3) ++ ([101] : List UInt8)) rfl rfl rfl (by kernel_rfl) (by kernel_rfl) (by kernel_rfl) (by kernel_rfl) c7 (by kernel_rfl) ?_
  refine TL_turn [] [14] [1] (mk 56 [(14, (ow 14))] [(14, (.obj (rowM 5 (((([105] : List UInt8) ++ r_3) ++ ([101] : List UInt8))))))]) (by kernel_rfl) ?_
  refine TL_part 1 [] (mk 56 [(2, (ow 14)), (14, (ow 14))] [(14, (.obj (rowM 5 (((([105] : List UInt8) ++ r_3) ++ ([101] : List UInt8))))))]) _ (by kernel_rfl) (z2 zt) rfl ?_
  refine TL_nilQ ?_
  refine T_turn [] [2] [] (mk 56 [(2, (ow 14))] [(14, (.obj (rowM 5 (((([105] : List UInt8) ++ r_3) ++ ([101] : List UInt8))))))]) (by kernel_rfl) ?_
  refine T_frzM (e := 5) (bs := ((([105] : List UInt8) ++ r_3) ++ ([101] : List UInt8))) 14 (mk 56 [(2, (dt (.sl 1 (((([105] : List UInt8) ++ r_3) ++ ([101] : List UInt8)).map elB))))] []) (by kernel_rfl) (by kernel_rfl) ?_
  refine T_ret ?_
  obtain rfl := some_inv h
  exact ret_here [(dt (.sl 1 (((([105] : List UInt8) ++ r_3) ++ ([101] : List UInt8)).map elB)))] (by kernel_rfl) (.inl rfl)
  replace h := ite_f b2 h
  refine T_reg [] [1, 15] [] (mk 56 [(1, (rf 1 0)), (15, (db (v_1.k == 2)))] [(1, (.var (qVal v_1)))]) _ (by kernel_rfl) (z4 zt) ?_
  refine T_cond (v_1.k == 2) (by kernel_rfl) (fun b8 => ?_) (fun b8 => ?_)
  replace h := ite_t b8 h
  obtain ⟨r_9, e10, h⟩ := bd_inv h
  refine T_reg [zn, zn, (zd (.sl 1 (r_9.map elB)))] [2] [1] (mk 56 [(2, (dt (.sl 1 (r_9.map elB))))] []) _ (by kernel_rfl) (z5 (zc (g_ref02_text_ret e10) (z2 zt))) ?_
  refine T_ret ?_
  obtain rfl := some_inv h
  exact ret_here [(dt (.sl 1 (r_9.map elB)))] (by kernel_rfl) (.inl rfl)
  replace h := ite_f b8 h
  refine T_skip ?_
  refine T_seq (T_parts ?_)
  refine TL_part 1 [] (mk 56 [(1, (rf 1 0)), (15, (db (v_1.k == 2))), (20, (ow 20))] [(20, (.row 5 1 (([108] : List UInt8).map elB))), (1, (.var (qVal v_1)))]) _ (by kernel_rfl) (z1 (zc (show dfill (fun i => some (i * 1, 1)) (List.replicate (1 * 1) .junk) [(0, [(.dat (.int .u8 108))])] = some ((flat (([108] : List UInt8).map elB)).map .dat) from rfl) zt)) rfl ?_
  refine TL_mark 28 5 21 20 ([108] : List UInt8) rfl rfl rfl (by kernel_rfl) (by kernel_rfl) (by kernel_rfl) (by kernel_rfl) (by decide) ?_
  refine TL_turn [] [1, 21] [] (mk 56 [(1, (rf 1 0)), (21, (ow 20))] [(20, (.obj (rowM 5 (([108] : List UInt8))))), (1, (.var (qVal v_1)))]) (by kernel_rfl) ?_
  refine TL_part 1 [] (mk 56 [(1, (rf 1 0)), (3, (ow 20)), (21, (ow 20))] [(20, (.obj (rowM 5 (([108] : List UInt8))))), (1, (.var (qVal v_1)))]) _ (by kernel_rfl) (z2 zt) rfl ?_
  refine TL_nilQ ?_
  refine T_turn [] [1, 3] [] (mk 56 [(1, (rf 1 0)), (3, (ow 20))] [(20, (.obj (rowM 5 (([108] : List UInt8))))), (1, (.var (qVal v_1)))]) (by kernel_rfl) ?_
  refine T_seqJ (α := List UInt8) (fun (l_11 : List UInt8) => (mk 56 [(1, (rf 1 0)), (3, (ow 20))] [(1, (.var (qVal v_1))), (20, (.obj (rowM 5 l_11)))])) (fun (l_11 : List UInt8) => g_ref02_encode_s_j1 v_1 rc l_11 = some r) (fun l_11 h => ?_) ?_
  refine T_seqJ (α := List UInt8) (fun (l_12 : List UInt8) => (mk 56 [(3, (ow 20))] [(20, (.obj (rowM 5 l_12)))])) (fun (l_12 : List UInt8) => g_ref02_encode_s_j2 l_12 = some r) (fun l_12 h => ?_) ?_
  refine T_seq (T_parts ?_)
  refine TL_part 2 [] (mk 56 [(3, (ow 20)), (53, (ow 20)), (54, (ow 54))] [(54, (.row 5 1 (([101] : List UInt8).map elB))), (20, (.obj (rowM 5 l_12)))]) _ (by kernel_rfl) (z3 (zc (show dfill (fun i => some (i * 1, 1)) (List.replicate (1 * 1) .junk) [(0, [(.dat (.int .u8 101))])] = some ((flat (([101] : List UInt8).map elB)).map .dat) from rfl) zt)) rfl ?_
  obtain ⟨c13, h⟩ := ck_inv h
  refine TL_appM 28 28 5 55 20 55 l_12 ([101] : List UInt8) rfl rfl rfl (by kernel_rfl) (by kernel_rfl) (by kernel_rfl) (by kernel_rfl) (.inl ⟨rfl, .inr ⟨54, by kernel_rfl, by kernel_rfl⟩⟩) c13 (by kernel_rfl) ?_
  refine TL_turn [] [55] [54] (mk 56 [(55, (ow 55))] [(55, (.obj (rowM 5 ((l_12 ++ ([101] : List UInt8))))))]) (by kernel_rfl) ?_
  refine TL_part 1 [] (mk 56 [(2, (ow 55)), (55, (ow 55))] [(55, (.obj (rowM 5 ((l_12 ++ ([101] : List UInt8))))))]) _ (by kernel_rfl) (z2 zt) rfl ?_
  refine TL_nilQ ?_
  refine T_turn [] [2] [] (mk 56 [(2, (ow 55))] [(55, (.obj (rowM 5 ((l_12 ++ ([101] : List UInt8))))))]) (by kernel_rfl) ?_
  refine T_frzM (e := 5) (bs := (l_12 ++ ([101] : List UInt8))) 55 (mk 56 [(2, (dt (.sl 1 ((l_12 ++ ([101] : List UInt8)).map elB))))] []) (by kernel_rfl) (by kernel_rfl) ?_
  refine T_ret ?_
  obtain rfl := some_inv h
  exact ret_here [(dt (.sl 1 ((l_12 ++ ([101] : List UInt8)).map elB)))] (by kernel_rfl) (.inl rfl)
  refine T_reg [] [1, 3, 4] [] (mk 56 [(1, (rf 1 0)), (3, (ow 20)), (4, (di 0))] [(1, (.var (qVal v_1))), (20, (.obj (rowM 5 l_11)))]) _ (by kernel_rfl) (z2 zt) ?_
  refine T_block ?_
  refine T_arr [] [1, 3, 4] [] [1, 20] _ (by kernel_rfl) (T_loopO (σ := Nat × (List UInt8)) (fun ((i_14, l_15) : Nat × (List UInt8)) => (mk 56 [(1, (rf 1 0)), (3, (ow 20)), (4, (di ((i_14 : Nat) : Int)))] [(1, (.var (qVal v_1))), (20, (.obj (rowM 5 l_15)))])) (g_ref02_encode_s_l3 v_1 rc) (0, l_11) h (fun v y1 hy1 h => ?_))
  obtain ⟨i_14, l_15⟩ := v
  refine T_seq ?_
  refine T_reg [zn, zn, zn, (zd (I ((v_1.l.length : Nat) : Int)))] [1, 3, 4, 31] [] (mk 56 [(1, (rf 1 0)), (3, (ow 20)), (4, (di ((i_14 : Nat) : Int))), (31, (db (decide (((i_14 : Nat) : Int) < ((v_1.l.length : Nat) : Int)))))] [(1, (.var (qVal v_1))), (20, (.obj (rowM 5 l_15)))]) _ (by kernel_rfl) (z7 (zc (len_s encVal v_1.l) (z2 zt))) ?_
  refine T_cond (decide (((i_14 : Nat) : Int) < ((v_1.l.length : Nat) : Int))) (by kernel_rfl) (fun b18 => ?_) (fun b18 => ?_)
  replace h := ite_t b18 h
  refine T_skip ?_
  refine T_seq ?_
  refine T_block ?_
  refine T_seqJ (α := List UInt8) (fun (l_19 : List UInt8) => (mk 56 [(1, (rf 1 0)), (3, (ow 20)), (4, (di ((i_14 : Nat) : Int)))] [(1, (.var (qVal v_1))), (20, (.obj (rowM 5 l_19)))])) (fun (l_19 : List UInt8) => g_ref02_encode_s_j4 v_1 i_14 rc l_19 = some y1) (fun l_19 h => ?_) ?_
  obtain ⟨x_20, e21, e22, e23, h⟩ := gn_invE encVal ndcVal encVal_nd h
  obtain ⟨r_24, e25, h⟩ := bd_inv h
  refine T_parts ?_
  refine TL_part 7 (hl 7 [(4, (zd (ndcVal x_20))), (6, (zd (.sl 1 (r_24.map elB))))]) (mk 56 [(1, (rf 1 0)), (3, (ow 20)), (4, (di ((i_14 : Nat) : Int))), (45, (ow 20)), (46, (rf 1 3)), (47, (dt (.sl 5 (v_1.l.map encVal)))), (48, (di ((i_14 : Nat) : Int))), (49, (dt (.ptr [(I x_20.k), (I x_20.n), (.str x_20.s), (.sl 5 (x_20.l.map encVal)), (.sl 1 (x_20.ks.map elStr))]))), (50, (.agg (qVal x_20))), (51, (dt (.sl 1 (r_24.map elB))))] [(1, (.var (qVal v_1))), (20, (.obj (rowM 5 l_19)))]) _ (by kernel_rfl) (z8 (z1 (zc e21 (z3 (zc (hrc e25) zt))))) rfl ?_
  obtain ⟨c26, h⟩ := ck_inv h
  refine TL_appM 28 28 5 52 20 52 l_19 r_24 rfl rfl rfl (by kernel_rfl) (by kernel_rfl) (by kernel_rfl) (by kernel_rfl) (.inl ⟨rfl, .inl (by kernel_rfl)⟩) c26 (by kernel_rfl) ?_
  refine TL_turn [] [1, 4, 52] [] (mk 56 [(1, (rf 1 0)), (4, (di ((i_14 : Nat) : Int))), (52, (ow 52))] [(52, (.obj (rowM 5 ((l_19 ++ r_24))))), (1, (.var (qVal v_1)))]) (by kernel_rfl) ?_
  refine TL_part 1 [] (mk 56 [(1, (rf 1 0)), (3, (ow 52)), (4, (di ((i_14 : Nat) : Int))), (52, (ow 52))] [(52, (.obj (rowM 5 ((l_19 ++ r_24))))), (1, (.var (qVal v_1)))]) _ (by kernel_rfl) (z2 zt) rfl ?_
  refine TL_nilQ ?_
  obtain ⟨c27, h⟩ := ckI_inv h
  exact T_regJ [zn, (zd (I ((i_14 + 1 : Nat) : Int)))] [.ren 52 20] [1, 3, 4] [] [1, 20] _ _ (by kernel_rfl) (z3 (zc c27 (z2 zt))) (fun s hs => Exists.intro (i_14 + 1, (l_19 ++ r_24)) (And.intro h hs))
  refine T_reg [] [1, 3, 4, 36] [] (mk 56 [(1, (rf 1 0)), (3, (ow 20)), (4, (di ((i_14 : Nat) : Int))), (36, (db (v_1.k == 4)))] [(1, (.var (qVal v_1))), (20, (.obj (rowM 5 l_15)))]) _ (by kernel_rfl) (z6 zt) ?_
  refine T_cond (v_1.k == 4) (by kernel_rfl) (fun b28 => ?_) (fun b28 => ?_)
  replace h := ite_t b28 h
  obtain ⟨x_29, e30, e31, e32, h⟩ := gn_inv elStr h
  obtain ⟨r_33, e34, h⟩ := bd_inv h
  refine T_parts ?_
  refine TL_part 7 (hl 7 [(4, (zd (.str x_29))), (6, (zd (.sl 1 (r_33.map elB))))]) (mk 56 [(1, (rf 1 0)), (3, (ow 20)), (4, (di ((i_14 : Nat) : Int))), (36, (db (v_1.k == 4))), (37, (ow 20)), (38, (rf 1 4)), (39, (dt (.sl 1 (v_1.ks.map elStr)))), (40, (di ((i_14 : Nat) : Int))), (41, (dt (.ptr [(.str x_29)]))), (42, (dt (.str x_29))), (43, (dt (.sl 1 (r_33.map elB))))] [(1, (.var (qVal v_1))), (20, (.obj (rowM 5 l_15)))]) _ (by kernel_rfl) (z8 (z1 (zc e30 (z3 (zc (g_ref02_text_ret e34) zt))))) rfl ?_
  obtain ⟨c35, h⟩ := ck_inv h
  refine TL_appM 28 28 5 44 20 44 l_15 r_33 rfl rfl rfl (by kernel_rfl) (by kernel_rfl) (by kernel_rfl) (by kernel_rfl) (.inl ⟨rfl, .inl (by kernel_rfl)⟩) c35 (by kernel_rfl) ?_
  refine TL_turn [] [1, 4, 44] [] (mk 56 [(1, (rf 1 0)), (4, (di ((i_14 : Nat) : Int))), (44, (ow 44))] [(44, (.obj (rowM 5 ((l_15 ++ r_33))))), (1, (.var (qVal v_1)))]) (by kernel_rfl) ?_
  refine TL_part 1 [] (mk 56 [(1, (rf 1 0)), (3, (ow 44)), (4, (di ((i_14 : Nat) : Int))), (44, (ow 44))] [(44, (.obj (rowM 5 ((l_15 ++ r_33))))), (1, (.var (qVal v_1)))]) _ (by kernel_rfl) (z2 zt) rfl ?_
  refine TL_nilQ ?_
  exact Exists.intro (l_15 ++ r_33) (And.intro h (arr [.ren 44 20] [1, 3, 4] [] [1, 20] (by kernel_rfl)))
  replace h := ite_f b28 h
  refine T_skip ?_
  exact Exists.intro l_15 (And.intro h (arr [] [1, 3, 4] [] [1, 20] (by kernel_rfl)))
  replace h := ite_f b18 h
  refine T_exit ?_
  replace h := up_inv h hy1
  exact Exists.intro l_15 (And.intro h (arr [] [3] [1] [20] (by kernel_rfl)))
  refine T_reg [] [1, 3, 24] [] (mk 56 [(1, (rf 1 0)), (3, (ow 20)), (24, (db (v_1.k == 4)))] [(20, (.obj (rowM 5 (([108] : List UInt8))))), (1, (.var (qVal v_1)))]) _ (by kernel_rfl) (z6 zt) ?_
  refine T_cond (v_1.k == 4) (by kernel_rfl) (fun b36 => ?_) (fun b36 => ?_)
  replace h := ite_t b36 h
  refine T_parts ?_
  refine TL_part 1 [] (mk 56 [(1, (rf 1 0)), (3, (ow 20)), (24, (db (v_1.k == 4))), (25, (ow 25))] [(25, (.row 5 1 (([100] : List UInt8).map elB))), (20, (.obj (rowM 5 (([108] : List UInt8))))), (1, (.var (qVal v_1)))]) _ (by kernel_rfl) (z1 (zc (show dfill (fun i => some (i * 1, 1)) (List.replicate (1 * 1) .junk) [(0, [(.dat (.int .u8 100))])] = some ((flat (([100] : List UInt8).map elB)).map .dat) from rfl) zt)) rfl ?_
  refine TL_mark 28 5 26 25 ([100] : List UInt8) rfl rfl rfl (by kernel_rfl) (by kernel_rfl) (by kernel_rfl) (by kernel_rfl) (by decide) ?_
  refine TL_turn [] [1, 3, 26] [] (mk 56 [(1, (rf 1 0)), (3, (ow 20)), (26, (ow 25))] [(25, (.obj (rowM 5 (([100] : List UInt8))))), (20, (.obj (rowM 5 (([108] : List UInt8))))), (1, (.var (qVal v_1)))]) (by kernel_rfl) ?_
  refine TL_part 1 [] (mk 56 [(1, (rf 1 0)), (3, (ow 25)), (26, (ow 25))] [(25, (.obj (rowM 5 (([100] : List UInt8))))), (20, (.obj (rowM 5 (([108] : List UInt8))))), (1, (.var (qVal v_1)))]) _ (by kernel_rfl) (z2 zt) rfl ?_
  refine TL_nilQ ?_
  exact Exists.intro ([100] : List UInt8) (And.intro h (arr [.ren 25 20] [1, 3] [] [1, 20] (by kernel_rfl)))
  replace h := ite_f b36 h
  refine T_skip ?_
  exact Exists.intro ([108] : List UInt8) (And.intro h (arr [] [1, 3] [] [1, 20] (by kernel_rfl)))
theorem g_ref02_encode_ret : ∀ {fu : Nat} {v_1 : Val} {r : List UInt8}, g_ref02_encode fu v_1 = some r → Ret Tryd.prog 27 [(ndcVal v_1)] (.sl 1 (r.map elB))
  | 0, _, _, h => by cases h
  | fu + 1, _, _, h => g_ref02_encode_s_ret (fun {_} {_} h => g_ref02_encode_ret h) h

end Go.Proofs.YtimalbkjflfdoaaDoor

namespace Go.Proofs.YtimalbkjflfdoaaDoor
open Go.DL
set_option maxRecDepth 100000
set_option maxHeartbeats 4000000
theorem g_slices_Index_Lbyte_byte_ret {s_1 : List UInt8} {v_2 : Int} {r : Int} (h : g_slices_Index_Lbyte_byte s_1 v_2 = some r) : Ret Tryd.prog 60 [(.sl 1 (s_1.map elB)), (.int .u8 v_2)] (I r) := by
  refine Ret.of_T Tryd.func60 (by kernel_rfl) rfl ?_
  refine T_turn [] [0, 1] [] (mk 19 [(0, (dt (.sl 1 (s_1.map elB)))), (1, (dt (.int .u8 v_2)))] []) (by kernel_rfl) ?_
  refine T_reg [] [0, 1] [] (mk 19 [(0, (dt (.sl 1 (s_1.map elB)))), (1, (dt (.int .u8 v_2)))] []) _ (by kernel_rfl) (z2 zt) ?_
  refine T_seqJ (α := Unit) (fun (_ : Unit) => (mk 19 [] [])) (fun (_ : Unit) => g_slices_Index_Lbyte_byte_j1 = some r) (fun v h => ?_) ?_
  refine T_reg [] [4] [] (mk 19 [(4, (di (-1)))] []) _ (by kernel_rfl) (z2 zt) ?_
  refine T_ret ?_
  obtain rfl := some_inv h
  exact ret_here [(di (-1))] (by kernel_rfl) (.inl rfl)
  refine T_reg [zn, (zd (I ((s_1.length : Nat) : Int)))] [0, 1, 7, 8] [] (mk 19 [(0, (dt (.sl 1 (s_1.map elB)))), (1, (dt (.int .u8 v_2))), (7, (di ((s_1.length : Nat) : Int))), (8, (di 0))] []) _ (by kernel_rfl) (z3 (zc (len_s elB s_1) (z2 zt))) ?_
  refine T_block ?_
  refine T_arr [] [0, 1, 7, 8] [] [] _ (by kernel_rfl) (T_loopO (σ := Nat) (fun (v_3 : Nat) => (mk 19 [(0, (dt (.sl 1 (s_1.map elB)))), (1, (dt (.int .u8 v_2))), (7, (di ((s_1.length : Nat) : Int))), (8, (di ((v_3 : Nat) : Int)))] [])) (g_slices_Index_Lbyte_byte_l2 s_1 v_2) 0 h (fun v_3 y1 hy1 h => ?_))
  refine T_reg [] [0, 1, 7, 8, 9] [] (mk 19 [(0, (dt (.sl 1 (s_1.map elB)))), (1, (dt (.int .u8 v_2))), (7, (di ((s_1.length : Nat) : Int))), (8, (di ((v_3 : Nat) : Int))), (9, (db (decide (((v_3 : Nat) : Int) < ((s_1.length : Nat) : Int)))))] []) _ (by kernel_rfl) (z2 zt) ?_
  refine T_seq ?_
  refine T_cond (decide (((v_3 : Nat) : Int) < ((s_1.length : Nat) : Int))) (by kernel_rfl) (fun b5 => ?_) (fun b5 => ?_)
  replace h := ite_t b5 h
  refine T_skip ?_
  refine T_seq ?_
  refine T_block ?_
  refine T_reg [] [0, 1, 5, 7, 8] [] (mk 19 [(0, (dt (.sl 1 (s_1.map elB)))), (1, (dt (.int .u8 v_2))), (5, (di ((v_3 : Nat) : Int))), (7, (di ((s_1.length : Nat) : Int))), (8, (di ((v_3 : Nat) : Int)))] []) _ (by kernel_rfl) (z4 zt) ?_
  obtain ⟨x_6, e7, e8, e9, h⟩ := gn_inv elB h
  refine T_reg [zn, zn, zn, (zd (.int .u8 ((x_6.toNat : Nat) : Int)))] [0, 1, 5, 7, 8, 16] [] (mk 19 [(0, (dt (.sl 1 (s_1.map elB)))), (1, (dt (.int .u8 v_2))), (5, (di ((v_3 : Nat) : Int))), (7, (di ((s_1.length : Nat) : Int))), (8, (di ((v_3 : Nat) : Int))), (16, (db (v_2 == ((x_6.toNat : Nat) : Int))))] []) _ (by kernel_rfl) (z7 (zc e7 (z4 zt))) ?_
  refine T_cond (v_2 == ((x_6.toNat : Nat) : Int)) (by kernel_rfl) (fun b10 => ?_) (fun b10 => ?_)
  replace h := ite_t b10 h
  refine T_reg [] [4] [] (mk 19 [(4, (di ((v_3 : Nat) : Int)))] []) _ (by kernel_rfl) (z4 zt) ?_
  refine T_ret ?_
  replace h := up_inv h hy1
  obtain rfl := some_inv h
  exact ret_here [(di ((v_3 : Nat) : Int))] (by kernel_rfl) (.inl rfl)
  replace h := ite_f b10 h
  refine T_skip ?_
  obtain ⟨c11, h⟩ := ckI_inv h
  exact T_regJ [(zd (I ((v_3 + 1 : Nat) : Int)))] [] [0, 1, 7, 8] [] [] _ _ (by kernel_rfl) (z1 (zc c11 (z2 zt))) (fun s hs => Exists.intro (v_3 + 1) (And.intro h hs))
  replace h := ite_f b5 h
  refine T_exit ?_
  replace h := up_inv h hy1
  exact Exists.intro () (And.intro h (arr [] [] [] [] (by kernel_rfl)))

end Go.Proofs.YtimalbkjflfdoaaDoor
