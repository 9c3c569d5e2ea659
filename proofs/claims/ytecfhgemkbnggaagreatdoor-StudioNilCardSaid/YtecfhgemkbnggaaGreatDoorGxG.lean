/-
  Tables that are written out tell the program; what a run of the machine says of a call.
-/
import Derived.Test.YtecfhgemkbnggaaGreatDoorGxE
import Derived.Test.YtecfhgemkbnggaaGreatDoorGxF
import Derived.Lib.MakeNoZero
import Derived.Lib.LaidU8
import Derived.Below
set_option linter.unusedVariables false
set_option linter.unusedSimpArgs false
set_option linter.unusedSectionVars false

namespace Go.Gx
open Go

/- Tables that are written out; externs. -/

def Tr.list {α : Type} : Tr α → Nat → Nat → List (Nat × α)
  | .nil, _, _ => []
  | .node l v r, m, o => (match v with | some x => [(o, x)] | none => []) ++ (l.list (2 * m) (o + m) ++ r.list (2 * m) (o + 2 * m))

theorem Tr.mem_list {α : Type} : ∀ {t : Tr α} {m o n : Nat} {x : α}, t.get n = some x → (o + m * n, x) ∈ t.list m o
  | .nil, _, _, _, _, h => by simp at h
  | .node l v r, m, o, n, x, h => by
    have hdiv : ∀ k : Nat, Nat.div k 2 = k / 2 := fun _ => rfl
    have hmod : ∀ k : Nat, Nat.mod k 2 = k % 2 := fun _ => rfl
    simp only [Tr.list, List.mem_append]
    by_cases hn : n = 0
    · subst hn
      have : v = some x := by simpa [Tr.get] using h
      subst this
      exact .inl (by simp)
    · have hb : Nat.beq n 0 = false := Tr.nbf hn
      by_cases ho : n % 2 = 1
      · have hob : Nat.beq (n % 2) 1 = true := by simpa using ho
        simp only [Tr.get, hb, hdiv, hmod, hob] at h
        have := Tr.mem_list (m := 2 * m) (o := o + m) h
        have e : o + m + 2 * m * (n / 2) = o + m * n := by
          have : n = 2 * (n / 2) + 1 := by omega
          conv => rhs; rw [this, Nat.mul_add, Nat.mul_one]
          rw [show m * (2 * (n / 2)) = 2 * m * (n / 2) by rw [← Nat.mul_assoc, Nat.mul_comm m 2]]
          omega
        rw [e] at this
        exact .inr (.inl this)
      · have hob : Nat.beq (n % 2) 1 = false := Tr.nbf ho
        simp only [Tr.get, hb, hdiv, hmod, hob] at h
        have := Tr.mem_list (m := 2 * m) (o := o + 2 * m) h
        have e : o + 2 * m + 2 * m * (Nat.pred (n / 2)) = o + m * n := by
          have h2 : n = 2 * (Nat.pred (n / 2)) + 2 := by simp only [Nat.pred_eq_sub_one]; omega
          conv => rhs; rw [h2, Nat.mul_add]
          rw [show m * (2 * Nat.pred (n / 2)) = 2 * m * Nat.pred (n / 2) by rw [← Nat.mul_assoc, Nat.mul_comm m 2], Nat.mul_comm m 2]
          omega
        rw [e] at this
        exact .inr (.inr this)

theorem Tr.mem_list0 {α : Type} {t : Tr α} {n : Nat} {x : α} (h : t.get n = some x) : (n, x) ∈ t.list 1 0 := by
  have := Tr.mem_list (m := 1) (o := 0) h
  simpa using this

theorem map_mem {α β : Type} {f g : α → β} {l : List α} (h : l.map f = l.map g) {x : α} (hx : x ∈ l) : f x = g x := by
  induction l with
  | nil => cases hx
  | cons y l ih =>
    simp only [List.map_cons, List.cons.injEq] at h
    rcases List.mem_cons.1 hx with rfl | hx
    · exact h.1
    · exact ih h.2 hx

/-- The tables tell the program, if they do so line by line. -/
theorem Env.ok_of {E : Env}
    (und : (E.und.list 1 0).map (fun p => E.P.underlying p.1) = (E.und.list 1 0).map fun p => some p.2)
    (siz : (E.siz.list 1 0).map (fun p => (E.P.info? p.1).map (·.size)) = (E.siz.list 1 0).map fun p => some p.2)
    (byt : (E.byt.list 1 0).map (fun p => (E.P.info? p.1).map (·.bytes)) = (E.byt.list 1 0).map fun p => some p.2)
    (zer : (E.zer.list 1 0).map (fun p => ((E.P.info? p.1).bind (·.zero)).bind cst) = (E.zer.list 1 0).map fun p => some p.2)
    (fld : ((E.und.list 1 0).all fun p => match p.2 with | .struct fs => fs.toList.all fun f => (E.siz.get f.type).isSome | _ => true) = true)
    (fun' : (E.fun'.list 1 0).map (fun p => E.P.funcs[p.1]?) = (E.fun'.list 1 0).map fun p => some p.2)
    (nog : ((E.fun'.list 1 0).all fun p => !(p.2.name == "runtime.NumGoroutine") && p.2.body.isSome) = true) : E.Ok where
  und t d h := map_mem und (Tr.mem_list0 h)
  siz t n h := by
    have := map_mem siz (Tr.mem_list0 h)
    simp only at this
    cases hi : E.P.info? t with
    | none => rw [hi] at this; cases this
    | some i => rw [hi] at this; exact ⟨i, rfl, by simpa using this⟩
  byt t n h := by
    have := map_mem byt (Tr.mem_list0 h)
    simp only at this
    cases hi : E.P.info? t with
    | none => rw [hi] at this; cases this
    | some i => rw [hi] at this; exact ⟨i, rfl, by simpa using this⟩
  zer t a h := by
    have := map_mem zer (Tr.mem_list0 h)
    simp only at this
    cases hi : E.P.info? t with
    | none => rw [hi] at this; cases this
    | some i =>
      rw [hi] at this
      simp only [Option.bind_some] at this
      cases hz : i.zero with
      | none => rw [hz] at this; cases this
      | some z => rw [hz] at this; exact ⟨i, z, rfl, hz, by simpa using this⟩
  fld t fs h f hf := by
    have := List.all_eq_true.1 fld _ (Tr.mem_list0 h)
    simp only [List.all_eq_true] at this
    have := this f hf
    exact Option.isSome_iff_exists.1 this
  fun' f fn h := by
    have h1 := map_mem fun' (Tr.mem_list0 h)
    have h2 := List.all_eq_true.1 nog _ (Tr.mem_list0 h)
    simp only [Bool.and_eq_true, Bool.not_eq_true'] at h2
    exact ⟨h1, h2.1, h2.2⟩

/-- What a run yields. -/
def ends (o : Option Out) : Option AV :=
  match o with
  | some (v, _) => some v
  | none => none

theorem ends_some {o : Option Out} {v : AV} (h : ends o = some v) : ∃ H, o = some (v, H) := by
  unfold ends at h
  split at h
  · cases h; exact ⟨_, rfl⟩
  · cases h

/-- A call of which the end is known, for the table of such calls. -/
theorem memo_of {E : Env} (hE : E.Ok) (hmix : E.P.follows .mixedOrders = true) {B : Nat} (hX : Exts E B) {n : Nat} {f : FuncId} {args : List AV} {v : AV} (h : ends (acallR E n f args ⟨.nil, 0⟩) = some v) (hv : Gx.plain v = true)
    {w : World} (hG : Globs E B w) (hB : B ≤ w.heap.size) {argv : Array Value} (ha : RvL (fun _ => none) args argv.toList) (cs : List Frame) :
    ∃ vv w', Ends E.P f argv w cs vv w' ∧ Rv (fun _ => none) v vv ∧ Fr (fun _ => none) ⟨.nil, 0⟩ w w' := by
  obtain ⟨H, h⟩ := ends_some h
  rw [acallR_eq] at h
  obtain ⟨vv, w', fr, ρ', h1, h2, h3, _, h5, h6⟩ := acall_ends hE hX (fun _ hs => draw_ok hE hmix hX hs) h hG hB ha cs
  exact ⟨vv, w', .inr ⟨h1, fr, h2, h3⟩, h5.plain hv, h6⟩

/-- The call at hand. -/
theorem calls_of {E : Env} (hE : E.Ok) (hmix : E.P.follows .mixedOrders = true) {B : Nat} (hX : Exts E B) {n : Nat} {f : FuncId} {args : List AV} {v : AV} (h : ends (acallR E n f args ⟨.nil, 0⟩) = some v) (hv : Gx.plain v = true)
    {w : World} (hG : Globs E B w) (hB : B ≤ w.heap.size) {argv : Array Value} (ha : RvL (fun _ => none) args argv.toList) :
    Calls E.P f argv w fun e w' => ∃ vv, e = .returned vv ∧ Rv (fun _ => none) v vv ∧ Fr (fun _ => none) ⟨.nil, 0⟩ w w' := by
  intro cs
  obtain ⟨H, h⟩ := ends_some h
  rw [acallR_eq] at h
  obtain ⟨vv, w', fr, ρ', _, h2, h3, h4, h5, h6⟩ := acall_ends hE hX (fun _ hs => draw_ok hE hmix hX hs) h hG hB ha cs
  exact ⟨.returned vv, w', fr, ⟨vv, rfl, h5.plain hv, h6⟩, h2, h4, h3⟩

theorem Fr.kept {w w' : World} (h : Fr (fun _ => none) ⟨.nil, 0⟩ w w') {b : Nat} (hb : b < w.heap.size) : w'.heap[b]? = w.heap[b]? := h.old b hb (by rintro ⟨i, k, hk, _⟩; cases hk)

/-- Externs: those of one program at `code 1` and `code 2`. -/
theorem exts_of {E : Env} {B : Nat} (h1 : ∀ f, E.ext.get f = some 1 → ∃ fn, E.P.funcs[f]? = some fn ∧ (fn.name == "runtime.NumGoroutine") = false ∧ fn.body = none ∧ Extern.findNext fn = none ∧ Extern.find fn = some Extern.AbiNoEscape.same)
    (h2 : ∀ f, E.ext.get f = some 2 → ∃ fn ps t, E.P.funcs[f]? = some fn ∧ (fn.name == "runtime.NumGoroutine") = false ∧ fn.body = none ∧ Extern.findNext fn = none ∧ Extern.find fn = some (Extern.BytealgMakeNoZero.makeNoZero ps #[t]) ∧
      E.P.underlying t = some (.slice E.P.rt.byte))
    (hp : ∀ e ∈ E.memo, plainL e.2.1 = true ∧ Gx.plain e.2.2 = true)
    (hm : ∀ e ∈ E.memo, ∀ w, Globs E B w → B ≤ w.heap.size → ∀ args : Array Value, RvL (fun _ => none) e.2.1 args.toList → ∀ cs, ∃ v w', Ends E.P e.1 args w cs v w' ∧ Rv (fun _ => none) e.2.2 v ∧
      Fr (fun _ => none) ⟨.nil, 0⟩ w w') : Exts E B where
  plain := hp
  memo := hm
  one f hf v w := by
    obtain ⟨fn, g1, g2, g3, g4, g5⟩ := h1 f hf
    simp only [callFunc, Sem.run_bind, run_program, Result.andThen_ok, g1, g2, g3, Option.isNone_none, Bool.false_eq_true, if_false, if_true, run_mark, g4, g5]
    rfl
  two f hf n hn w := by
    obtain ⟨fn, ps, t, g1, g2, g3, g4, g5, g6⟩ := h2 f hf
    obtain ⟨cs, q1, q2, _⟩ := Lib.run_makeNoZero (P := E.P) (w := w) ps t E.P.rt.byte g6 n (by omega)
    refine ⟨cs, w.drew.drew.drawn, q2, ?_⟩
    simp only [callFunc, Sem.run_bind, run_program, Result.andThen_ok, g1, g2, g3, Option.isNone_none, Bool.false_eq_true, if_false, if_true, run_mark, g4, g5, q1]
    rfl

end Go.Gx

namespace Go.Gx
open Go

/- What a row's list of variables tells of our tables. -/

theorem ints_of_reads {P : Program} {w : World} {name : String} {g : Nat} {t e : TypeId} {n : Nat} {k : IntKind} {zs : List Int} (h : Lib.VarReads P w name (.agg (zs.map fun z => .lit (.int k z))))
    (hg : P.globalNamed name = some g) (ht : (P.globals[g]?).map (·.type) = some t) (hu : P.underlying t = some (.array n e)) (he : P.underlying e = some (.int k)) (hc : P.cellsOf e = 1) (hn : zs.length = n)
    {i : Nat} {z : Int} (hz : zs[i]? = some z) : w.cell? ⟨g, i, none⟩ = some (.int k z) := by
  obtain ⟨g', t', cs, fuel, p, h1, h2, h3, h4⟩ := h
  rw [hg] at h1; cases h1
  rw [ht] at h2; cases h2
  have hi : i < n := by rw [← hn]; exact (List.getElem?_eq_some_iff.1 hz).1
  obtain ⟨f', d, q, h5, h6⟩ := Lib.array_elem hu h4 i hi
  rw [hc] at h6
  obtain ⟨z', h7, h9, _⟩ := DataW.trod_int he h6
  cases h9
  have h8 : cs.toList[i]? = some (.int k z') := by
    have := congrArg (·[0]?) h7
    simpa [List.getElem?_take, List.getElem?_drop] using this
  rw [List.getElem?_map, hz] at h5
  simp only [Option.map_some, Option.some.injEq, DataW.lit.injEq, Lit.int.injEq, true_and] at h5
  subst h5
  rw [World.var?_cell hg h3 i]
  simpa using h8

/-- Nothing that was there has changed. -/
theorem Fr.below {w w' : World} (h : Fr (fun _ => none) ⟨.nil, 0⟩ w w') : Go.RowKit.Below w.heap.size w w' := by
  refine ⟨h.os, h.tape, h.output, h.size, fun k hk => h.kept hk⟩

end Go.Gx
