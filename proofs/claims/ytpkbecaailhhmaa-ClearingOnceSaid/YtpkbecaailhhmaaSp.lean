/-
  The plain data of chapter 39, and how it is laid as data of the framework; the plain functions that the code computes.
-/
import Derived.Test.YtpkbecaailhhmaaDLt
set_option linter.unusedVariables false
set_option linter.unusedSimpArgs false
namespace Go.Proofs.Ytpkbecaailhhmaa
open Go.DL
structure Pay where
  c : Int
  a : Int
  deriving DecidableEq
structure Hold where
  t : Int
  p : Int
  ps : List Pay
  s : Int
  deriving DecidableEq
structure House where
  b : List Pay
  h : List Hold
  deriving DecidableEq
def encI (n : Int) : D := .int .i64 n
def encPay (p : Pay) : D := .agg [.int .i64 p.c, .int .i64 p.a]
def encHold (x : Hold) : D := .agg [.int .i64 x.t, .int .i64 x.p, .sl 2 (x.ps.map encPay), .int .i64 x.s]
theorem encI_one (l : List Int) : cellsOne (l.map encI) := by
  intro d hd c hc; obtain ⟨x, _, rfl⟩ := List.mem_map.1 hd; simp [encI, D.cells] at hc; subst hc; rfl
theorem encPay_one (l : List Pay) : cellsOne (l.map encPay) := by
  intro d hd c hc; obtain ⟨x, _, rfl⟩ := List.mem_map.1 hd; simp [encPay, D.cells] at hc; rcases hc with rfl | rfl <;> rfl
theorem encHold_one (l : List Hold) : cellsOne (l.map encHold) := by
  intro d hd c hc; obtain ⟨x, _, rfl⟩ := List.mem_map.1 hd; simp [encHold, D.cells] at hc; rcases hc with rfl | rfl | rfl | rfl <;> rfl

theorem drop_cons {α : Type} {l : List α} {k : Nat} {p : α} (h : l[k]? = some p) : l.drop k = p :: l.drop (k + 1) := by
  obtain ⟨hlt, rfl⟩ := List.getElem?_eq_some_iff.1 h
  exact List.drop_eq_getElem_cons hlt
theorem take_snoc {α : Type} {l : List α} {k : Nat} {p : α} (h : l[k]? = some p) : l.take (k + 1) = l.take k ++ [p] := by
  rw [List.take_add_one, h]; rfl

/-- The sum of payments, as the code forms it: with the machine's own wrap. -/
def sumFrom (n : Int) : List Pay → Int
  | [] => n
  | p :: l => sumFrom (IntKind.i64.wrap (n + p.a)) l

theorem sumFrom_drop {l : List Pay} {k : Nat} {p : Pay} (n : Int) (h : l[k]? = some p) : sumFrom n (l.drop k) = sumFrom (IntKind.i64.wrap (n + p.a)) (l.drop (k + 1)) := by
  rw [drop_cons h]; rfl

/-- The sum of the holds that are held, on top of n. -/
def heldFrom (n : Int) : List Hold → Int
  | [] => n
  | x :: l => heldFrom (if x.s = 1 then IntKind.i64.wrap (n + sumFrom 0 x.ps) else n) l
def total (h : House) : Int := heldFrom (sumFrom 0 h.b) h.h

/-- A club's balance: the first that bears its number. -/
def bal (c : Int) : List Pay → Int × Bool
  | [] => (0, false)
  | p :: l => if p.c = c then (p.a, true) else bal c l

/-- Clubs behind p, increasing. -/
def incFrom (p : Int) : List Int → Bool
  | [] => true
  | c :: l => if c < 0 ∨ c ≥ 192 ∨ c ≤ p then false else incFrom c l
def areClubs (l : List Int) : Bool := incFrom (-1) l && decide (0 < l.length)

def fewHolds : List Hold → Bool
  | [] => true
  | x :: l => if x.ps.length > 70 then false else fewHolds l
def fewHouse (h : House) : Bool := if h.b.length > 30 ∨ h.h.length > 30 then false else fewHolds h.h

/-- cmp.Compare. -/
def cmpI (x y : Int) : Int := if x < y then -1 else if x > y then 1 else 0

theorem take_eq_succ {α : Type} {a b : List α} {k : Nat} {x y : α} (h : a.take k = b.take k) (hx : a[k]? = some x) (hy : b[k]? = some y) (e : x = y) : a.take (k + 1) = b.take (k + 1) := by
  rw [take_snoc hx, take_snoc hy, h, e]
theorem eq_of_take {α : Type} {a b : List α} {k : Nat} (h : a.take k = b.take k) (h1 : a.length ≤ k) (h2 : b.length ≤ k) : a = b := by
  rwa [List.take_of_length_le h1, List.take_of_length_le h2] at h
theorem pay_eq {x y : Pay} (h : (x.c == y.c && (x.a == y.a && true)) = true) : x = y := by
  simp at h; cases x; cases y; simp_all
theorem pay_ne {x y : Pay} (h : (x.c == y.c && (x.a == y.a && true)) = false) : x ≠ y := by
  rintro rfl; simp at h
theorem dec_ne {α : Type} [DecidableEq α] {a b : List α} {k : Nat} {x y : α} (hx : a[k]? = some x) (hy : b[k]? = some y) (h : x ≠ y) : false = decide (a = b) := by
  symm; rw [decide_eq_false_iff_not]; rintro rfl; rw [hx] at hy; exact h (Option.some.inj hy)
/-- The binary search of the library: the place between i and j. -/
def bs (ks : List Int) (key : Int) (i j : Nat) : Nat :=
  if i < j then if ks.getD ((i + j) / 2) 0 < key then bs ks key ((i + j) / 2 + 1) j else bs ks key i ((i + j) / 2) else i
termination_by j - i
decreasing_by all_goals omega
def bsAt (ks : List Int) (key : Int) : Nat := bs ks key 0 ks.length
def bsMet (ks : List Int) (key : Int) : Bool := decide (ks[bsAt ks key]? = some key)

theorem cmpI_lt {x y : Int} : (cmpI x y < 0) ↔ x < y := by
  unfold cmpI; split <;> (try split) <;> omega
theorem cmpI_eq {x y : Int} : (cmpI x y = 0) ↔ x = y := by
  unfold cmpI; split <;> (try split) <;> omega
theorem bs_le (ks : List Int) (key : Int) (i j : Nat) (h : i ≤ j) : bs ks key i j ≤ j := by
  induction i, j using bs.induct ks key with
  | case1 i j h1 h2 ih => rw [bs, if_pos h1, if_pos h2]; exact ih (by omega)
  | case2 i j h1 h2 ih => rw [bs, if_pos h1, if_neg h2]; have := ih (by omega); omega
  | case3 i j h1 => rw [bs, if_neg h1]; exact h
theorem bs_lt {ks : List Int} {key : Int} {i j : Nat} {v : Int} (h : i < j) (hx : ks[(i + j) / 2]? = some v) (hv : v < key) : bs ks key ((i + j) / 2 + 1) j = bs ks key i j := by
  rw [bs.eq_def ks key i j, if_pos h, if_pos (by rw [List.getD, hx]; exact hv)]
theorem bs_ge {ks : List Int} {key : Int} {i j : Nat} {v : Int} (h : i < j) (hx : ks[(i + j) / 2]? = some v) (hv : ¬ v < key) : bs ks key i ((i + j) / 2) = bs ks key i j := by
  rw [bs.eq_def ks key i j, if_pos h, if_neg (by rw [List.getD, hx]; exact hv)]
theorem bs_end {ks : List Int} {key : Int} {i j : Nat} (h : ¬ i < j) : bs ks key i j = i := by rw [bs, if_neg h]
theorem met_at {α : Type} {f : α → Int} {l : List α} {key : Int} {i : Nat} {x : α} (he : bsAt (l.map f) key = i) (hx : l[i]? = some x) : (cmpI (f x) key == 0) = bsMet (l.map f) key := by
  rw [bsMet, he, List.getElem?_map, hx]
  simp only [Option.map_some, Option.some.injEq]
  rw [Bool.eq_iff_iff, beq_iff_eq, decide_eq_true_iff, cmpI_eq]

/-! ### validity -/
def MAXA : Int := 1125899906842624
def prevOf (k : Nat) (c : Int) : Option Int := if k = 0 then none else some c
/-- Is the number not behind the one before? -/
def notBehind (c : Int) : Option Int → Bool
  | none => false
  | some q => decide (c ≤ q)
def payLoop (has : Int → Bool) (p : Option Int) (n : Int) : List Pay → Bool
  | [] => decide (n ≤ 1125899906842624)
  | x :: l => if has x.c = false ∨ x.a < 1 ∨ x.a > 1125899906842624 ∨ notBehind x.c p = true then false else payLoop has (some x.c) (IntKind.i64.wrap (n + x.a)) l
def paysOK (has : Int → Bool) (l : List Pay) : Bool := if l.length > 64 then false else payLoop has none 0 l
theorem payLoop_step {has : Int → Bool} {k : Nat} {e x : Pay} {n : Int} {l : List Pay} (hx : l[k]? = some x) (h1 : has x.c = true) (h2 : ¬ x.a < 1) (h3 : ¬ x.a > 1125899906842624) (h4 : k = 0 ∨ e.c < x.c) :
    payLoop has (prevOf (k + 1) x.c) (IntKind.i64.wrap (n + x.a)) (l.drop (k + 1)) = payLoop has (prevOf k e.c) n (l.drop k) := by
  rw [drop_cons hx, payLoop, if_neg]
  · rfl
  · rintro (h | h | h | h)
    · rw [h1] at h; cases h
    · exact h2 h
    · exact h3 h
    · unfold prevOf at h
      split at h
      · cases h
      · simp only [notBehind, decide_eq_true_eq] at h; omega
theorem payLoop_stop {has : Int → Bool} {k : Nat} {e x : Pay} {n : Int} {l : List Pay} (hx : l[k]? = some x) (h : has x.c = false ∨ x.a < 1 ∨ x.a > 1125899906842624 ∨ (0 < k ∧ x.c ≤ e.c)) :
    false = payLoop has (prevOf k e.c) n (l.drop k) := by
  rw [drop_cons hx, payLoop, if_pos]
  rcases h with h | h | h | ⟨h, h'⟩
  · exact .inl h
  · exact .inr (.inl h)
  · exact .inr (.inr (.inl h))
  · refine .inr (.inr (.inr ?_))
    rw [prevOf, if_neg (by omega)]
    simpa [notBehind] using h'
theorem payLoop_end {has : Int → Bool} {p : Option Int} {k : Nat} {n : Int} {l : List Pay} (h : l.length ≤ k) : decide (n ≤ 1125899906842624) = payLoop has p n (l.drop k) := by
  rw [List.drop_eq_nil_of_le h]; rfl

def hasB (h : House) (c : Int) : Bool := bsMet (h.b.map (·.c)) c
def hasR (h : House) (c : Int) : Bool := (bal c h.b).2
def holdOK (has : Int → Bool) (p : Option Int) (x : Hold) : Bool :=
  decide (x.t ≥ 1) && (decide (x.t ≤ 4096) && (!notBehind x.t p && (has x.p && (paysOK has x.ps && (decide (x.s ≥ 1) && decide (x.s ≤ 3))))))
def holdsFrom (has : Int → Bool) (p : Option Int) : List Hold → Bool
  | [] => true
  | x :: l => holdOK has p x && holdsFrom has (some x.t) l
def amountsOK : List Pay → Bool
  | [] => true
  | x :: l => if x.a < 0 ∨ x.a > 1125899906842624 then false else amountsOK l
def checkWith (has : House → Int → Bool) (h : House) : Bool :=
  decide (h.b.length ≤ 192) && (decide (h.h.length ≤ 4096) && (amountsOK h.b && (areClubs (h.b.map (·.c)) && (holdsFrom (has h) none h.h && decide (total h ≤ 1125899906842624)))))
def check (h : House) : Int := if checkWith hasB h = true then 0 else 1
def checkR (h : House) : Int := if checkWith hasR h = true then 0 else 1

theorem holdsFrom_step {has : Int → Bool} {k : Nat} {e x : Hold} {l : List Hold} (hx : l[k]? = some x) (h : holdOK has (prevOf k e.t) x = true) :
    holdsFrom has (prevOf (k + 1) x.t) (l.drop (k + 1)) = holdsFrom has (prevOf k e.t) (l.drop k) := by
  rw [drop_cons hx, holdsFrom, h]; rfl
theorem holdsFrom_stop {has : Int → Bool} {k : Nat} {e x : Hold} {l : List Hold} (hx : l[k]? = some x) (h : holdOK has (prevOf k e.t) x = false) : holdsFrom has (prevOf k e.t) (l.drop k) = false := by
  rw [drop_cons hx, holdsFrom, h]; rfl
section
variable {has : House → Int → Bool} {h : House}
theorem cw_len (e : h.b.length > 192 ∨ h.h.length > 4096) : checkWith has h = false := by
  unfold checkWith
  rcases e with e | e
  · rw [decide_eq_false (by omega)]; rfl
  · rw [decide_eq_false (p := h.h.length ≤ 4096) (by omega)]; simp
theorem cw_amount (e : amountsOK h.b = false) : checkWith has h = false := by simp [checkWith, e]
theorem cw_clubs (e : areClubs (h.b.map (·.c)) = false) : checkWith has h = false := by simp [checkWith, e]
theorem cw_holds (e : holdsFrom (has h) none h.h = false) : checkWith has h = false := by simp [checkWith, e]
theorem cw_total (e : total h > 1125899906842624) : checkWith has h = false := by simp [checkWith, show ¬ total h ≤ 1125899906842624 by omega]
theorem cw_ok (h1 : h.b.length ≤ 192) (h2 : h.h.length ≤ 4096) (h3 : amountsOK h.b = true) (h4 : areClubs (h.b.map (·.c)) = true) (h5 : holdsFrom (has h) none h.h = true) (h6 : total h ≤ 1125899906842624) : checkWith has h = true := by
  simp [checkWith, h1, h2, h3, h4, h5, h6]
theorem chk_no (e : checkWith hasB h = false) : 1 = check h := by simp [check, e]
theorem chk_yes (e : checkWith hasB h = true) : 0 = check h := by simp [check, e]
theorem chkR_no (e : checkWith hasR h = false) : 1 = checkR h := by simp [checkR, e]
theorem chkR_yes (e : checkWith hasR h = true) : 0 = checkR h := by simp [checkR, e]
theorem all_taken {l : List Pay} {k : Nat} {cl : List Int} (h : cl = (l.take k).map (·.c)) (hk : l.length ≤ k) : cl = l.map (·.c) := by rw [h, List.take_of_length_le hk]
theorem taken_step {l : List Pay} {k : Nat} {cl : List Int} {x : Pay} (h : cl = (l.take k).map (·.c)) (hx : l[k]? = some x) : cl ++ [x.c] = (l.take (k + 1)).map (·.c) := by rw [h, take_snoc hx]; simp
end

/-! ### houses -/
theorem hold_eq {x y : Hold} (h1 : x.t = y.t) (h2 : x.p = y.p) (h3 : x.s = y.s) (h4 : decide (x.ps = y.ps) = true) : x = y := by
  cases x; cases y; simp_all
theorem house_eq {a b : House} {k : Nat} (h1 : decide (a.b = b.b) = true) (h2 : a.h.take k = b.h.take k) (h3 : a.h.length ≤ k) (h4 : b.h.length ≤ k) : true = decide (a = b) := by
  symm; rw [decide_eq_true_iff]
  have := eq_of_take h2 h3 h4
  cases a; cases b; simp_all
def newB (l : List Int) : List Pay := if areClubs l = true then l.map (fun c => ⟨c, 0⟩) else []
def newE (l : List Int) : Int := if areClubs l = true then 0 else 190

structure Step where
  k : Int
  c : Int
  a : Int
  t : Int
  ps : List Pay
  pd : Bool
  deriving DecidableEq
def encStep (x : Step) : D := .agg [.int .i64 x.k, .int .i64 x.c, .int .i64 x.a, .int .i64 x.t, .sl 2 (x.ps.map encPay), .bool x.pd]
theorem encStep_one (l : List Step) : cellsOne (l.map encStep) := by
  intro d hd c hc; obtain ⟨x, _, rfl⟩ := List.mem_map.1 hd; simp [encStep, D.cells] at hc; rcases hc with rfl | rfl | rfl | rfl | rfl | rfl <;> rfl
def fewSteps : List Step → Bool
  | [] => true
  | x :: l => if x.ps.length > 70 then false else fewSteps l
def few (cl : List Int) (l : List Step) : Bool := if cl.length > 12 ∨ l.length > 14 then false else fewSteps l

/-- What all payments to its club add to a balance. -/
def addAll (x : Pay) : List Pay → Pay
  | [] => x
  | p :: ps => addAll (if p.c = x.c then ⟨x.c, IntKind.i64.wrap (x.a + p.a)⟩ else x) ps
def mid (f : Pay → Pay) (b : List Pay) (i : Nat) (y : Pay) : List Pay := (b.take i).map f ++ y :: b.drop (i + 1)
theorem mid_get {f : Pay → Pay} {b : List Pay} {i : Nat} {y : Pay} (h : i < b.length) : (mid f b i y)[i]? = some y := by
  unfold mid
  rw [List.getElem?_append_right (by simp; omega)]
  simp [Nat.min_eq_left (Nat.le_of_lt h)]
theorem mid_set {f : Pay → Pay} {b : List Pay} {i : Nat} {y z : Pay} (h : i < b.length) : (mid f b i y).set i z = mid f b i z := by
  unfold mid
  rw [List.set_append_right _ _ (by simp; omega)]
  simp [Nat.min_eq_left (Nat.le_of_lt h)]
theorem mid_len {f : Pay → Pay} {b : List Pay} {i : Nat} {y : Pay} (h : i < b.length) : (mid f b i y).length = b.length := by
  unfold mid; simp; omega
theorem mid_start {f : Pay → Pay} {b : List Pay} {i : Nat} {x : Pay} (h : b[i]? = some x) : (b.take i).map f ++ b.drop i = mid f b i x := by
  unfold mid; rw [drop_cons h]
theorem mid_end {f : Pay → Pay} {b : List Pay} {i : Nat} {x y : Pay} (h : b[i]? = some x) (hy : y = f x) : mid f b i y = (b.take (i + 1)).map f ++ b.drop (i + 1) := by
  unfold mid; rw [take_snoc h, hy]; simp

/-- What one payment makes of balances, by the search. -/
def give (m : List Pay) (p : Pay) : List Pay :=
  match m[bsAt (m.map (·.c)) p.c]? with
  | some e => if bsMet (m.map (·.c)) p.c = true then m.set (bsAt (m.map (·.c)) p.c) ⟨e.c, IntKind.i64.wrap (e.a + p.a)⟩ else m
  | none => m
def cred (m : List Pay) : List Pay → List Pay
  | [] => m
  | p :: ps => cred (give m p) ps
theorem give_met {m : List Pay} {p e : Pay} (he : m[bsAt (m.map (·.c)) p.c]? = some e) (h : bsMet (m.map (·.c)) p.c = true) : give m p = m.set (bsAt (m.map (·.c)) p.c) ⟨e.c, IntKind.i64.wrap (e.a + p.a)⟩ := by
  unfold give; rw [he]; simp [h]
theorem give_not {m : List Pay} {p : Pay} (h : bsMet (m.map (·.c)) p.c = false) : give m p = m := by
  unfold give; rw [h]; split <;> simp
theorem met_lt {α : Type} {f : α → Int} {l : List α} {key : Int} (h : bsMet (l.map f) key = true) : bsAt (l.map f) key < l.length := by
  unfold bsMet at h
  have := of_decide_eq_true h
  obtain ⟨h1, _⟩ := List.getElem?_eq_some_iff.1 this
  simpa using h1

/-! ### the three movements -/
def none0 : House := ⟨[], []⟩
def paid (h : House) (c a : Int) : House × Int :=
  if check h ≠ 0 then (none0, check h)
  else if hasB h c = false ∨ a < 1 ∨ a > 1125899906842624 then (none0, 1)
  else if IntKind.i64.wrap (total h + a) > 1125899906842624 then (none0, 2)
  else (⟨cred h.b [⟨c, a⟩], h.h⟩, 0)
def settled (h : House) (t : Int) (pd : Bool) : House × Int :=
  if check h ≠ 0 then (none0, check h)
  else if bsMet (h.h.map (·.t)) t = false then (none0, 391)
  else match h.h[bsAt (h.h.map (·.t)) t]? with
    | none => (none0, 391)
    | some x => if x.s ≠ 1 then (none0, 391)
      else if pd = true then (⟨cred h.b x.ps, h.h.set (bsAt (h.h.map (·.t)) t) ⟨x.t, x.p, x.ps, 2⟩⟩, 0)
      else (⟨cred h.b [⟨x.p, sumFrom 0 x.ps⟩], h.h.set (bsAt (h.h.map (·.t)) t) ⟨x.t, x.p, x.ps, 3⟩⟩, 0)
theorem ne_of_met {α : Type} {f : α → Int} {l : List α} {key : Int} (h : bsMet (l.map f) key = true) : l ≠ [] := by
  intro e; have := met_lt h; subst e; simp at this
theorem ne_of_check {h : House} (e : check h = 0) : h.b ≠ [] := by
  unfold check at e
  split at e
  · rename_i hc
    intro hn
    simp [checkWith, hn, areClubs] at hc
  · cases e
theorem len_of_check {h : House} (e : check h = 0) : h.b.length ≤ 192 ∧ h.h.length ≤ 4096 := by
  unfold check at e
  split at e
  · rename_i hc
    simp only [checkWith, Bool.and_eq_true, decide_eq_true_eq] at hc
    exact ⟨hc.1, hc.2.1⟩
  · cases e

/-! ### the reference's three movements -/
def addR (h : House) (ps : List Pay) : List Pay := h.b.map (fun x => addAll x ps)
def paidR (h : House) (c a : Int) : House × Int :=
  if checkR h ≠ 0 then (none0, 1)
  else if hasR h c = false ∨ a < 1 ∨ a > 1125899906842624 then (none0, 1)
  else if IntKind.i64.wrap (total h + a) > 1125899906842624 then (none0, 2)
  else (⟨addR h [⟨c, a⟩], h.h⟩, 0)
def heldAt (t : Int) : List Hold → Nat → Option (Nat × Hold)
  | [], _ => none
  | x :: l, k => if x.t ≠ t ∨ x.s ≠ 1 then heldAt t l (k + 1) else some (k, x)
def settledR (h : House) (t : Int) (pd : Bool) : House × Int :=
  if checkR h ≠ 0 then (none0, 1)
  else match heldAt t h.h 0 with
    | none => (none0, 391)
    | some (k, x) => if pd = true then (⟨addR h x.ps, h.h.set k ⟨x.t, x.p, x.ps, 2⟩⟩, 0)
      else (⟨addR h [⟨x.p, sumFrom 0 x.ps⟩], h.h.set k ⟨x.t, x.p, x.ps, 3⟩⟩, 0)
theorem heldAt_here {t : Int} {l : List Hold} {k : Nat} {x : Hold} {r : Option (Nat × Hold)} (iv : heldAt t (l.drop k) k = r) (hx : l[k]? = some x) (h1 : x.t = t) (h2 : x.s = 1) : r = some (k, x) := by
  rw [← iv, drop_cons hx, heldAt, if_neg (by simp [h1, h2])]
theorem heldAt_end {t : Int} {l : List Hold} {k : Nat} {r : Option (Nat × Hold)} (iv : heldAt t (l.drop k) k = r) (h : l.length ≤ k) : r = none := by
  rw [← iv, List.drop_eq_nil_of_le h]; rfl
def lowT (t : Int) : List Hold → Nat
  | [] => 0
  | x :: l => if x.t < t then lowT t l + 1 else 0
def metT (t : Int) (l : List Hold) : Bool := match l[lowT t l]? with | some x => x.t == t | none => false
def heldR (h : House) (t p : Int) (l : List Pay) : House × Int :=
  if checkR h ≠ 0 then (none0, 1)
  else if t < 1 ∨ t > 4096 ∨ metT t h.h = true then (none0, 391)
  else if hasR h p = false ∨ paysOK (hasR h) l = false then (none0, 1)
  else if (bal p h.b).1 < sumFrom 0 l then (none0, 390)
  else (⟨addR h [⟨p, IntKind.i64.wrap (0 - sumFrom 0 l)⟩], h.h.take (lowT t h.h) ++ [⟨t, p, l, 1⟩] ++ h.h.drop (lowT t h.h)⟩, 0)
theorem lowT_end {t : Int} {l : List Hold} {k : Nat} (iv : k + lowT t (l.drop k) = lowT t l) (h : l.length ≤ k) : lowT t l = k := by
  rw [← iv, List.drop_eq_nil_of_le h]; rfl
theorem lowT_here {t : Int} {l : List Hold} {k : Nat} {x : Hold} (iv : k + lowT t (l.drop k) = lowT t l) (hx : l[k]? = some x) (h : ¬ x.t < t) : lowT t l = k := by
  rw [← iv, drop_cons hx, lowT, if_neg h]; rfl
theorem metT_here {t : Int} {l : List Hold} {k : Nat} {x : Hold} (e : lowT t l = k) (hx : l[k]? = some x) : metT t l = (x.t == t) := by
  unfold metT; rw [e, hx]
theorem metT_end {t : Int} {l : List Hold} {k : Nat} (e : lowT t l = k) (hx : l.length ≤ k) : metT t l = false := by
  unfold metT; rw [e, List.getElem?_eq_none hx]
end Go.Proofs.Ytpkbecaailhhmaa
