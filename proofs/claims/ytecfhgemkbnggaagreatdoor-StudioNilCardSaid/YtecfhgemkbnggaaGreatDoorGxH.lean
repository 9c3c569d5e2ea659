/-
  The functions that a call can come to, over a great program; types that lie as they should.
-/
import Derived.Test.YtecfhgemkbnggaaGreatDoorGxG
import Derived.JoinedOf
import GoSem.ClaimGoes
set_option linter.unusedVariables false
set_option linter.unusedSimpArgs false
set_option linter.unusedSectionVars false

namespace Go.Gx
open Go

/- The functions that a call can come to by plain names, over a great program. -/

theorem get_lt (P : Program) (f : Nat) : P.funcs[f]? = (Tr.putL P.funcs.toList 0 .nil).get f := by
  rw [Tr.get_putL]
  by_cases h : f < P.funcs.size
  · rw [if_pos (by simpa using h)]
    simp [h]
  · rw [if_neg (by simpa using h)]
    simp [h]

/-- The functions that are named in a body. -/
def leads (fn : Func) : List FuncId :=
  match fn.body with
  | some c => c.funcsNamed
  | none => []

/-- The closure, with what has been seen laid in a tree; it tells whether it has come to its end. -/
def cloO (t : Tr Func) : Nat → List FuncId → List FuncId → Tr Unit → Option (List FuncId)
  | _, [], seen, _ => some seen.reverse
  | 0, _ :: _, _, _ => none
  | n + 1, f :: todo, seen, s => match s.get f with
    | some _ => cloO t n todo seen s
    | none => s.setK f (some ()) fun s => match t.get f with
      | some fn => cloO t n (leads fn ++ todo) (f :: seen) s
      | none => cloO t n todo (f :: seen) s

theorem cloO_ok {P : Program} (h : ∀ fn ∈ P.funcs.toList, P.leadsTo fn = leads fn) : ∀ (n : Nat) (todo seen : List FuncId) (s : Tr Unit) (r : List FuncId), (∀ f, (s.get f).isSome = seen.contains f) →
    cloO (Tr.putL P.funcs.toList 0 .nil) n todo seen s = some r → ∀ m, n ≤ m → P.closureVia m todo seen = r
  | n, [], seen, s, r, hs, hr, m, hm => by
    have : cloO (Tr.putL P.funcs.toList 0 .nil) n [] seen s = some seen.reverse := by cases n <;> rfl
    rw [this] at hr; cases hr
    cases m <;> rfl
  | 0, f :: todo, seen, s, r, hs, hr, m, hm => by cases hr
  | n + 1, f :: todo, seen, s, r, hs, hr, m, hm => by
    obtain ⟨m, rfl⟩ : ∃ k, m = k + 1 := ⟨m - 1, by omega⟩
    have hf := hs f
    rw [Program.closureVia]
    simp only [cloO] at hr
    cases hg : s.get f with
    | some u =>
      rw [hg] at hr hf
      rw [if_pos (by rw [← hf]; rfl)]
      exact cloO_ok h n todo seen s r hs hr m (by omega)
    | none =>
      rw [hg] at hr hf
      simp only [Tr.setK_eq] at hr
      rw [if_neg (by rw [← hf]; simp)]
      have hs' : ∀ g, ((s.set f (some ())).get g).isSome = (f :: seen).contains g := by
        intro g
        rw [Tr.get_set]
        by_cases e : g = f
        · subst e; simp
        · rw [if_neg e, hs g]
          simp [List.contains_cons, e]
      rw [get_lt]
      cases hfn : (Tr.putL P.funcs.toList 0 .nil).get f with
      | none =>
        rw [hfn] at hr
        exact cloO_ok h n _ _ _ r hs' hr m (by omega)
      | some fn =>
        rw [hfn] at hr
        have hmem : fn ∈ P.funcs.toList := by
          rw [← get_lt] at hfn
          exact Array.mem_toList_iff.2 (Array.mem_of_getElem? hfn)
        show P.closureVia m (P.leadsTo fn ++ todo) (f :: seen) = r
        rw [h fn hmem]
        exact cloO_ok h n _ _ _ r hs' hr m (by omega)

def cloK (l : List Func) (n : Nat) (f : FuncId) : Option (List FuncId) := Tr.putLK l 0 .nil fun t => cloO t n [f] [] .nil

/-- How many steps the closure may take, at least. -/
def sumF : List Func → Nat → Nat
  | [], a => a
  | fn :: l, a => sumF l ((leads fn).length + 1 + a)

theorem sumF_eq : ∀ (l : List Func) (a : Nat), sumF l a = (l.map fun g => (leads g).length + 1).sum + a
  | [], a => by simp [sumF]
  | fn :: l, a => by simp only [sumF, sumF_eq l, List.map_cons, List.sum_cons]; omega

theorem closure_of {P : Program} (h : ∀ fn ∈ P.funcs.toList, P.leadsTo fn = leads fn) {n : Nat} {f : FuncId} {r : List FuncId} (hr : cloK P.funcs.toList n f = some r) (hn : Nat.ble n (sumF P.funcs.toList 1) = true) : P.closure f = r := by
  unfold cloK at hr
  rw [Tr.putLK_eq] at hr
  unfold Program.closure
  refine cloO_ok h n _ _ _ r (fun f => by simp) hr _ ?_
  have := Nat.le_of_ble_eq_true hn
  rw [sumF_eq] at this
  have e : (P.funcs.toList.map fun g => (P.leadsTo g).length + 1) = P.funcs.toList.map fun g => (leads g).length + 1 := List.map_congr_left fun g hg => by rw [h g hg]
  rw [e]; omega

/-- Nothing without a body is read as a twin. -/
def noTwin (l : List Func) : Bool := l.all fun fn => match fn.body with
  | some _ => true
  | none => (entryEnters.lookup fn.name).isNone

theorem leads_of {P : Program} (h : noTwin P.funcs.toList = true) : ∀ fn ∈ P.funcs.toList, P.leadsTo fn = leads fn := by
  intro fn hfn
  have := List.all_eq_true.1 h fn hfn
  unfold Program.leadsTo leads
  cases hb : fn.body with
  | some c => rfl
  | none =>
    rw [hb] at this
    simp only at this ⊢
    cases hl : entryEnters.lookup fn.name with
    | none => rfl
    | some x => rw [hl] at this; cases this

/- What is read off the closure. -/

def placeF (clo : List FuncId) (t : Tr Func) : List String := clo.filterMap fun g => (t.get g).bind fun fn => if fn.ours || fn.body.isNone || fn.name == "runtime.NumGoroutine" then some fn.name else none

theorem inPlace_of {P : Program} {f : FuncId} {clo : List FuncId} (h : P.closure f = clo) {r : List String} (hr : (Tr.putLK P.funcs.toList 0 .nil fun t => some (placeF clo t)) = some r) : P.inPlace f = r := by
  rw [Tr.putLK_eq] at hr
  cases hr
  unfold Program.inPlace placeF
  rw [h]
  simp only [get_lt]

def varsF (gs : Array Global) (clo : List FuncId) (t : Tr Func) : List String :=
  (((clo.flatMap fun g => ((t.get g).bind (·.body)).elim [] Code.globalsNamed).eraseDups).filterMap (fun g => (gs[g]?).map (·.name)) ++
   clo.filterMap fun g => (t.get g).bind fun fn => if fn.body.isNone then entryReads.lookup fn.name else none).eraseDups

theorem varsNamed_of {P : Program} {f : FuncId} {clo : List FuncId} (h : P.closure f = clo) {r : List String} (hr : (Tr.putLK P.funcs.toList 0 .nil fun t => some (varsF P.globals clo t)) = some r) : P.varsNamed f = r := by
  rw [Tr.putLK_eq] at hr
  cases hr
  unfold Program.varsNamed varsF
  rw [h]
  simp only [get_lt]

def unfF (clo : List FuncId) (t : Tr Func) : Bool := clo.any fun g => (t.get g).any fun fn => match fn.body with | some c => c.unfollowed | none => entryCalls fn

theorem unfollowed_of {P : Program} {f : FuncId} {clo : List FuncId} (h : P.closure f = clo) {r : Bool} (hr : (Tr.putLK P.funcs.toList 0 .nil fun t => some (unfF clo t)) = some r) : P.unfollowed f = r := by
  rw [Tr.putLK_eq] at hr
  cases hr
  unfold Program.unfollowed unfF
  rw [h]
  simp only [get_lt]
  rfl

theorem goes_of {P : Program} (h : P.funcs.toList.any Func.goes = false) (f : FuncId) : P.goes f = false := by
  unfold Program.goes
  have h1 : P.funcs.any Func.goes = false := by rw [← Array.any_toList]; exact h
  rw [h1, Bool.and_false, Bool.or_false, List.any_eq_false]
  intro g _
  cases hg : P.funcs[g]? with
  | none => simp
  | some fn =>
    have := List.any_eq_false.1 h fn (Array.mem_toList_iff.2 (Array.mem_of_getElem? hg))
    simpa using this

/- A program's types lie as they should: part by part. -/

def fineB (P : Program) (o : Nat) : Nat → Bool
  | 0 => true
  | n + 1 => rowFine P (o + n) && fineB P o n

theorem fineB_at {P : Program} {o : Nat} : ∀ {n : Nat}, fineB P o n = true → ∀ t, o ≤ t → t < o + n → rowFine P t = true
  | 0, _, t, h1, h2 => by omega
  | n + 1, h, t, h1, h2 => by
    simp only [fineB, Bool.and_eq_true] at h
    by_cases e : t = o + n
    · rw [e]; exact h.1
    · exact fineB_at h.2 t h1 (by omega)

theorem laidOut_of {P : Program} {n : Nat} (hn : P.types.size = n) (h : ∀ t, t < n → rowFine P t = true) (hg : (P.globals.toList.all fun g => Nat.blt g.type n) = true) (hf : (P.funcs.toList.all fun f => f.params.toList.all fun t => Nat.blt t n) = true) : laidOutB P = true := by
  subst hn
  have blt : ∀ {a b : Nat}, Nat.blt a b = true → a < b := fun h => Nat.le_of_ble_eq_true h
  unfold laidOutB
  rw [Bool.and_eq_true, Bool.and_eq_true]
  refine ⟨⟨List.all_eq_true.2 fun t ht => h t (by simpa using ht), ?_⟩, ?_⟩
  · rw [← Array.all_toList, List.all_eq_true]
    intro g hg'
    exact decide_eq_true (blt (List.all_eq_true.1 hg g hg'))
  · rw [← Array.all_toList, List.all_eq_true]
    intro f hf'
    rw [← Array.all_toList, List.all_eq_true]
    intro t ht
    exact decide_eq_true (blt (List.all_eq_true.1 (List.all_eq_true.1 hf f hf') t ht))

end Go.Gx
