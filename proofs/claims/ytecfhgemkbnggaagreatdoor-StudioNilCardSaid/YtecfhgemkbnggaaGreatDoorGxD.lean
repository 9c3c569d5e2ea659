/-
  The soundness of that machine, third part: frames, calls, loops, panics, and the machine as a whole.
-/
import Derived.Test.YtecfhgemkbnggaaGreatDoorGxC
set_option linter.unusedVariables false
set_option linter.unusedSimpArgs false
set_option linter.unusedSectionVars false

namespace Go.Gx
open Go

/- Frames of ours and the model's. -/

inductive RelIt (ρ : Ren) : AIt → Item → Prop
  | code (c : Code) : RelIt ρ (.code c) (.code c)
  | inBlock (id : Nat) : RelIt ρ (.inBlock id) (.inBlock id)
  | inLoop (c : Code) : RelIt ρ (.inLoop c) (.inLoop c)
  | inScope (c : Code) : RelIt ρ (.inScope c) (.inScope c)
  | ops {ops : Array Oper} {rest : List Oper} {is : List Nat} : rest.map some = is.map (fun i => ops[i]?) → RelIt ρ (.ops ops.toList rest) (.inRegion ops is)
  | inRF {l : Nat} {k : Bk} : ρ l = some k → RelIt ρ (.inRF l) (.inRangeFunc k.b)
  | endRF {l : Nat} {k : Bk} : ρ l = some k → RelIt ρ (.endRF l) (.endRangeFunc k.b)
  | beginRound : RelIt ρ .beginRound .beginRound

inductive RelIts (ρ : Ren) : List AIt → List Item → Prop
  | nil : RelIts ρ [] []
  | cons {a : AIt} {i : Item} {l : List AIt} {is : List Item} : RelIt ρ a i → RelIts ρ l is → RelIts ρ (a :: l) (i :: is)

inductive RelDf (ρ : Ren) : ADf → Deferred → Prop
  | call {f : FuncId} {l m : List AV} {c d : Array Value} : RvL ρ l c.toList → RvL ρ m d.toList → RelDf ρ (.call f l m) ⟨.fn (.func f) d, c⟩
  | collected {id : Nat} {k : Bk} : ρ id = some k → RelDf ρ (.collected id) ⟨.collected k.b, #[]⟩

inductive RelDfs (ρ : Ren) : List ADf → List Deferred → Prop
  | nil : RelDfs ρ [] []
  | cons {a : ADf} {i : Deferred} {l : List ADf} {is : List Deferred} : RelDf ρ a i → RelDfs ρ l is → RelDfs ρ (a :: l) (i :: is)

inductive RelCh (ρ : Ren) : List (AV × Bool) → List PanicEntry → Prop
  | nil : RelCh ρ [] []
  | cons {a : AV} {b : Bool} {v : Value} {l : List (AV × Bool)} {c : List PanicEntry} : Rv ρ a v → RelCh ρ l c → RelCh ρ ((a, b) :: l) ({ v, recovered := b, goexit := false } :: c)

inductive RelMd (ρ : Ren) : AMode → FrameMode → Prop
  | run : RelMd ρ .run .run
  | ret : RelMd ρ .ret .returning
  | pan {l : List (AV × Bool)} {c : List PanicEntry} : RelCh ρ l c → RelMd ρ (.pan l) (.panicking c)

inductive RelRd (ρ : Ren) : Option Nat → Option Nat → Prop
  | none : RelRd ρ none none
  | some {l : Nat} {k : Bk} : ρ l = some k → RelRd ρ (some l) (some k.b)

structure RelF (ρ : Ren) (a : AFr) (fr : Frame) : Prop where
  fn : fr.fn = a.fn
  tmps : RvT ρ a.tmps a.ntm fr.tmps
  todo : RelIts ρ a.todo fr.todo
  defers : RelDfs ρ a.defers fr.defers
  mode : RelMd ρ a.mode fr.mode
  kind : fr.kind = a.kind
  rnd : RelRd ρ a.rnd fr.roundOf

inductive RelS (ρ : Ren) : List AFr → List Frame → Prop
  | nil : RelS ρ [] []
  | cons {a : AFr} {f : Frame} {l : List AFr} {fs : List Frame} : RelF ρ a f → RelS ρ l fs → RelS ρ (a :: l) (f :: fs)

section mono
variable {ρ ρ' : Ren} (h : Le ρ ρ')
include h

theorem RelIt.mono {a : AIt} {i : Item} : RelIt ρ a i → RelIt ρ' a i
  | .code c => .code c
  | .inBlock id => .inBlock id
  | .inLoop c => .inLoop c
  | .inScope c => .inScope c
  | .ops e => .ops e
  | .inRF e => .inRF (h _ _ e)
  | .endRF e => .endRF (h _ _ e)
  | .beginRound => .beginRound

theorem RelIts.mono : ∀ {a : List AIt} {i : List Item}, RelIts ρ a i → RelIts ρ' a i
  | _, _, .nil => .nil
  | _, _, .cons e r => .cons (e.mono h) (RelIts.mono r)

theorem RelDf.mono {a : ADf} {i : Deferred} : RelDf ρ a i → RelDf ρ' a i
  | .call e e' => .call (e.mono h) (e'.mono h)
  | .collected e => .collected (h _ _ e)

theorem RelDfs.mono : ∀ {a : List ADf} {i : List Deferred}, RelDfs ρ a i → RelDfs ρ' a i
  | _, _, .nil => .nil
  | _, _, .cons e r => .cons (e.mono h) (RelDfs.mono r)

theorem RelCh.mono : ∀ {a : List (AV × Bool)} {i : List PanicEntry}, RelCh ρ a i → RelCh ρ' a i
  | _, _, .nil => .nil
  | _, _, .cons e r => .cons (e.mono h) (RelCh.mono r)

theorem RelMd.mono {a : AMode} {i : FrameMode} : RelMd ρ a i → RelMd ρ' a i
  | .run => .run
  | .ret => .ret
  | .pan e => .pan (e.mono h)

theorem RelRd.mono {a i : Option Nat} : RelRd ρ a i → RelRd ρ' a i
  | .none => .none
  | .some e => .some (h _ _ e)

theorem RelF.mono {a : AFr} {fr : Frame} (r : RelF ρ a fr) : RelF ρ' a fr :=
  ⟨r.fn, r.tmps.mono h, r.todo.mono h, r.defers.mono h, r.mode.mono h, r.kind, r.rnd.mono h⟩

theorem RelS.mono : ∀ {a : List AFr} {fs : List Frame}, RelS ρ a fs → RelS ρ' a fs
  | _, _, .nil => .nil
  | _, _, .cons e r => .cons (e.mono h) (RelS.mono r)

end mono

/-- A stack of the model's, over callers of whatever kind. -/
def conf (frs cs : List Frame) (w : World) : Machine :=
  match frs with
  | [] => lone default cs w
  | fr :: frs => lone fr (frs ++ cs) w

/-- A stack goes to its end: its last frame leaves, with a value. -/
def Goal (E : Env) (B : Nat) (ρ : Ren) (H : St) (w : World) (frs cs : List Frame) (b : FuncId) (r : Out) : Prop :=
  ∃ ρ' w' fr v, Steps E.P (conf frs cs w) (lone fr cs w') ∧ fr.leaving E.P w' (.returned v) ∧ fr.fn = b ∧ Rv ρ' r.1 v ∧ Res B ρ H w ρ' r.2 w'

theorem Goal.of {E : Env} {B : Nat} {ρ ρ' : Ren} {H H' : St} {w w' : World} {frs frs' cs : List Frame} {b : FuncId} {r : Out} (hs : Steps E.P (conf frs cs w) (conf frs' cs w')) (hr : Res B ρ H w ρ' H' w')
    (h : Goal E B ρ' H' w' frs' cs b r) : Goal E B ρ H w frs cs b r := by
  obtain ⟨ρ'', w'', fr, v, h1, h2, h3, h4, h5⟩ := h
  exact ⟨ρ'', w'', fr, v, hs.trans h1, h2, h3, h4, hr.trans h5⟩

theorem Goal.same {E : Env} {B : Nat} {ρ : Ren} {H : St} {w : World} {frs frs' cs : List Frame} {b : FuncId} {r : Out} (hs : Steps E.P (conf frs cs w) (conf frs' cs w))
    (h : Goal E B ρ H w frs' cs b r) : Goal E B ρ H w frs cs b r := by
  obtain ⟨ρ'', w'', fr, v, h1, h2, h3, h4, h5⟩ := h
  exact ⟨ρ'', w'', fr, v, hs.trans h1, h2, h3, h4, h5⟩

/-- The last frame's function. -/
def base : List AFr → FuncId
  | [] => 0
  | [f] => f.fn
  | _ :: fs => base fs

/-- What is known of a state. -/
structure Ok (E : Env) (B : Nat) (ρ : Ren) (H : St) (w : World) : Prop where
  rel : RelH B ρ H w
  glo : Globs E B w
  le : B ≤ w.heap.size

theorem Ok.res {E : Env} {B : Nat} {ρ ρ' : Ren} {H H' : St} {w w' : World} (h : Ok E B ρ H w) (hr : Res B ρ H w ρ' H' w') : Ok E B ρ' H' w' := by
  refine ⟨hr.rel, fun g c off a hg ha => ?_, Nat.le_trans h.le hr.fr.size⟩
  obtain ⟨hlt, v, hv, hrv⟩ := h.glo g c off a hg ha
  refine ⟨hlt, v, ?_, hrv⟩
  have hold := hr.fr.old g (Nat.lt_of_lt_of_le hlt h.le) (by
    rintro ⟨i, k, hk, e, _⟩
    have := h.rel.base i k hk
    omega)
  unfold World.cell? at hv ⊢
  simp only at hv ⊢
  rw [hold]; exact hv

/-- The machine of ours tells the model's. -/
def Good (E : Env) (B : Nat) (self : List AFr → St → Option Out) : Prop :=
  ∀ fs H r, self fs H = some r → ∀ ρ w frs cs, RelS ρ fs frs → Ok E B ρ H w → Goal E B ρ H w frs cs (base fs) r

theorem RelF.eval {ρ : Ren} {a : AFr} {fr : Frame} (h : RelF ρ a fr) : EvR ρ a.tmps fr.eval :=
  EvR.of_tmps h.tmps (fun _ => rfl) (fun _ => rfl) (fun _ => rfl) (fun _ => rfl)

/-- A value is put into its slot. -/
def putV (vs : Array Value) (dst : Option Tmp) (v : Value) : Array Value :=
  match dst with
  | some d => vs.setIfInBounds d v
  | none => vs

theorem aput_ok {β : Type} {ρ : Ren} {tm : Tr AV} {dst : Option Tmp} {n : Nat} {v : AV} {k : Tr AV → Option β} {r : β} {vs : Array Value} {vv : Value} (h : aput tm dst n v k = some r) (ht : RvT ρ tm n vs) (hv : Rv ρ v vv) :
    ∃ tm', k tm' = some r ∧ RvT ρ tm' n (putV vs dst vv) := by
  unfold aput at h
  split at h
  · exact ⟨tm, h, ht⟩
  · rename_i d
    split at h
    case h_2 => cases h
    rename_i hlt
    have hlt := blt_lt hlt
    rw [forceV_eq, Tr.setK_eq] at h
    refine ⟨_, h, by simpa [putV] using ht.1, fun i a ha => ?_⟩
    simp only [putV]
    by_cases e : i = d
    · subst e
      rw [Tr.get_set_same] at ha; cases ha
      exact ⟨hlt, vv, by rw [Array.getElem?_setIfInBounds_self_of_lt (by have := ht.1; omega)], hv⟩
    · rw [Tr.get_set_ne _ _ _ e] at ha
      obtain ⟨h1, v', h2, h3⟩ := ht.2 i a ha
      exact ⟨h1, v', by rw [Array.getElem?_setIfInBounds_ne (Ne.symm e)]; exact h2, h3⟩

theorem RelIts.ops_inv {ρ : Ren} {all : List Oper} {o : Oper} {rest : List Oper} {k : List AIt} {todo : List Item} (h : RelIts ρ (.ops all (o :: rest) :: k) todo) :
    ∃ ops i is k', todo = .inRegion ops (i :: is) :: k' ∧ all = ops.toList ∧ ops[i]? = some o ∧ RelIt ρ (.ops all rest) (.inRegion ops is) ∧ RelIts ρ k k' := by
  cases h with
  | cons e r =>
    cases e with
    | ops e =>
      rename_i ops is
      cases is with
      | nil => simp at e
      | cons i is =>
        simp only [List.map_cons, List.cons.injEq] at e
        exact ⟨ops, i, is, _, rfl, rfl, e.1.symm, .ops e.2, r⟩

section
variable {E : Env} {B : Nat} {self : List AFr → St → Option Out} (hs : Good E B self) {ρ : Ren} {H : St} {w : World} (hK : Ok E B ρ H w) {cs : List Frame} {r : Out}
include hs hK

theorem afinish_ok {f : AFr} {fs : List AFr} {v : AV} {fr : Frame} {frs : List Frame} {vv : Value} (h : afinish self f fs v H = some r) (hf : RelF ρ f fr) (hfs : RelS ρ fs frs) (hv : Rv ρ v vv) :
    Goal E B ρ H w (fr.finish vv :: frs) cs (base (f :: fs)) r := by
  obtain ⟨fn, ntm, tm, todo, ds, md, kd, rnd⟩ := f
  unfold afinish at h
  split at h <;> first | cases h | skip
  rename_i fn' ntm' tm' todo' ds' md' kd' rnd' heq
  cases heq
  split at h <;> first | cases h | skip
  · rename_i all o rest k
    obtain ⟨ops, i, is, k', htodo, rfl, ho, hrest, hk⟩ := hf.todo.ops_inv
    obtain ⟨tm', h1, h2⟩ := aput_ok h hf.tmps hv
    have hb : base (⟨fn, ntm, tm, .ops ops.toList (o :: rest) :: k, ds, md, kd, rnd⟩ :: fs) = base (⟨fn, ntm, tm', .ops ops.toList rest :: k, ds, md, kd, rnd⟩ :: fs) := by cases fs <;> rfl
    rw [hb]
    refine hs _ _ _ h1 ρ w _ cs (.cons ?_ hfs) hK
    have hfin : fr.finish vv = { fr with tmps := putV fr.tmps o.dst vv, todo := .inRegion ops is :: k' } := by
      unfold Frame.finish putV
      simp only [htodo, ho, Option.bind_some]
      rfl
    rw [hfin]
    exact ⟨hf.fn, h2, .cons hrest hk, hf.defers, hf.mode, hf.kind, hf.rnd⟩
  · rename_i l k
    have hb : base (⟨fn, ntm, tm, .inRF l :: k, ds, md, kd, rnd⟩ :: fs) = base (⟨fn, ntm, tm, .endRF l :: k, ds, md, kd, rnd⟩ :: fs) := by cases fs <;> rfl
    rw [hb]
    have ht := hf.todo
    generalize htd : fr.todo = td at ht
    cases ht with
    | cons e hk => cases e with
      | inRF hl =>
        rename_i is' kb
        refine hs _ _ _ h ρ w _ cs (.cons ?_ hfs) hK
        have hfin : fr.finish vv = { fr with todo := .endRangeFunc kb.b :: is' } := by
          unfold Frame.finish
          simp only [htd]
        rw [hfin]
        exact ⟨hf.fn, hf.tmps, .cons (.endRF hl) hk, hf.defers, hf.mode, hf.kind, hf.rnd⟩

theorem areturn_ok {kind : CallKind} {fs : List AFr} {v : AV} {fr : Frame} {frs : List Frame} {vv : Value} (h : areturn self kind fs v H = some r) (hkind : fr.kind = kind) (hfs : RelS ρ fs frs) (hne : fs ≠ []) (hv : Rv ρ v vv) :
    ∃ c cs', doReturn E.P true fr (frs ++ cs) none vv w = .go { frame := c, callers := cs' ++ cs, status := .running, dying := none } w ∧ Goal E B ρ H w (c :: cs') cs (base fs) r := by
  unfold areturn at h
  cases hfs with
  | nil => exact absurd rfl hne
  | cons hf hfs =>
    rename_i a f l frs
    simp only at h
    split at h <;> first | cases h | skip
    · exact ⟨f.finish vv, frs, by simp only [List.cons_append, doReturn, hkind], afinish_ok hs hK h hf hfs hv⟩
    · obtain ⟨fn, ntm, tm, todo, ds, md, kd, rnd⟩ := a
      simp only at h
      have hb : ∀ md', base (⟨fn, ntm, tm, todo, ds, md, kd, rnd⟩ :: l) = base (⟨fn, ntm, tm, todo, ds, md', kd, rnd⟩ :: l) := fun _ => by cases l <;> rfl
      have hmd := hf.mode
      have huse : ∀ md' fmd, self (⟨fn, ntm, tm, todo, ds, md', kd, rnd⟩ :: l) H = some r → RelMd ρ md' fmd →
          Goal E B ρ H w ({ f with mode := fmd } :: frs) cs (base (⟨fn, ntm, tm, todo, ds, md, kd, rnd⟩ :: l)) r := by
        intro md' fmd h' hr
        rw [hb md']
        exact hs _ _ _ h' ρ w _ cs (.cons ⟨hf.fn, hf.tmps, hf.todo, hf.defers, hr, hf.kind, hf.rnd⟩ hfs) hK
      simp only at hmd
      cases hfm : f.mode with
      | run =>
        rw [hfm] at hmd
        cases hmd
        refine ⟨f, frs, by simp only [List.cons_append, doReturn, hkind, hfm], ?_⟩
        have := huse .run .run (by simpa using h) .run
        rwa [show ({ f with mode := .run } : Frame) = f by rw [← hfm]] at this
      | returning =>
        rw [hfm] at hmd
        cases hmd
        refine ⟨f, frs, by simp only [List.cons_append, doReturn, hkind, hfm], ?_⟩
        have := huse .ret .returning (by simpa using h) .ret
        rwa [show ({ f with mode := .returning } : Frame) = f by rw [← hfm]] at this
      | panicking c =>
        rw [hfm] at hmd
        cases hmd with
        | pan hc =>
          cases hc with
          | nil =>
            refine ⟨f, frs, by simp only [List.cons_append, doReturn, hkind, hfm], ?_⟩
            have := huse (.pan []) (.panicking []) (by simpa using h) (.pan .nil)
            rwa [show ({ f with mode := .panicking [] } : Frame) = f by rw [← hfm]] at this
          | cons ha hc =>
            rename_i b v' l' c'
            cases b with
            | false =>
              refine ⟨f, frs, by simp only [List.cons_append, doReturn, hkind, hfm], ?_⟩
              have := huse _ _ (by simpa using h) (.pan (.cons ha hc))
              rwa [← hfm] at this
            | true =>
              have hdrop : ∀ {l : List (AV × Bool)} {c : List PanicEntry}, RelCh ρ l c → c.dropWhile (!·.goexit) = [] := by
                intro l c hc
                induction hc with
                | nil => rfl
                | cons _ _ ih => simpa using ih
              refine ⟨{ f with mode := .returning }, frs, by simp only [List.cons_append, doReturn, hkind, hfm, hdrop hc], huse .ret .returning (by simpa using h) .ret⟩

end

end Go.Gx

namespace Go.Gx
open Go

/- Calls. -/

mutual
theorem aveq_eq : ∀ {a b : AV}, aveq a b = true → a = b
  | .bool a, b, h => by cases b <;> simp_all [aveq]
  | .int k a, b, h => by cases b <;> simp_all [aveq]
  | .str l a, b, h => by
    cases b <;> simp only [aveq, Bool.and_eq_true, Bool.false_eq_true] at h
    rw [Nat.eq_of_beq_eq_true h.1, Nat.eq_of_beq_eq_true h.2]
  | .pnil, b, h => by cases b <;> simp_all [aveq]
  | .ptr i a, b, h => by
    cases b <;> simp only [aveq, Bool.and_eq_true, Bool.false_eq_true] at h
    rw [Nat.eq_of_beq_eq_true h.1, Nat.eq_of_beq_eq_true h.2]
  | .gptr i a, b, h => by
    cases b <;> simp only [aveq, Bool.and_eq_true, Bool.false_eq_true] at h
    rw [Nat.eq_of_beq_eq_true h.1, Nat.eq_of_beq_eq_true h.2]
  | .snil, b, h => by cases b <;> simp_all [aveq]
  | .slice i a x y, b, h => by
    cases b <;> simp only [aveq, Bool.and_eq_true, Bool.false_eq_true] at h
    rw [Nat.eq_of_beq_eq_true h.1.1.1, Nat.eq_of_beq_eq_true h.1.1.2, Nat.eq_of_beq_eq_true h.1.2, Nat.eq_of_beq_eq_true h.2]
  | .gslice i a x y, b, h => by
    cases b <;> simp only [aveq, Bool.and_eq_true, Bool.false_eq_true] at h
    rw [Nat.eq_of_beq_eq_true h.1.1.1, Nat.eq_of_beq_eq_true h.1.1.2, Nat.eq_of_beq_eq_true h.1.2, Nat.eq_of_beq_eq_true h.2]
  | .mnil, b, h => by cases b <;> simp_all [aveq]
  | .map i, b, h => by
    cases b <;> simp only [aveq, Bool.false_eq_true] at h
    rw [Nat.eq_of_beq_eq_true h]
  | .fnil, b, h => by cases b <;> simp_all [aveq]
  | .fn f x y, b, h => by
    cases b <;> simp only [aveq, Bool.and_eq_true, Bool.false_eq_true] at h
    rw [Nat.eq_of_beq_eq_true h.1.1, aveqL_eq h.1.2, aveqL_eq h.2]
  | .inil, b, h => by cases b <;> simp_all [aveq]
  | .ifc t x, b, h => by
    cases b <;> simp only [aveq, Bool.and_eq_true, Bool.false_eq_true] at h
    rw [Nat.eq_of_beq_eq_true h.1, aveq_eq h.2]
  | .agg l, b, h => by
    cases b <;> simp only [aveq, Bool.false_eq_true] at h
    rw [aveqL_eq h]
  | .tup l, b, h => by
    cases b <;> simp only [aveq, Bool.false_eq_true] at h
    rw [aveqL_eq h]
  | .any, b, h => by cases b <;> simp [aveq] at h
  | .yield _, b, h => by cases b <;> simp [aveq] at h
theorem aveqL_eq : ∀ {a b : List AV}, aveqL a b = true → a = b
  | [], b, h => by cases b <;> simp_all [aveqL]
  | x :: l, b, h => by
    cases b with
    | nil => simp [aveqL] at h
    | cons y m =>
      simp only [aveqL, Bool.and_eq_true] at h
      rw [aveq_eq h.1, aveqL_eq h.2]
end

/-- What a call comes to, made over the callers `cs`: at once, or through a frame. -/
def Ends (P : Program) (f : FuncId) (args : Array Value) (w : World) (cs : List Frame) (v : Value) (w' : World) : Prop :=
  (callFunc f args).run P w = .ok (.value v) w' ∨
  ((callFunc f args).run P w = .ok (.enter f args) w ∧ ∃ fr, Steps P (lone (Frame.enter P f args .normal) cs w) (lone fr cs w') ∧ fr.leaving P w' (.returned v))

mutual
/-- Does it speak of no block of ours? -/
def plain : AV → Bool
  | .bool _ | .int _ _ | .str _ _ | .pnil | .gptr _ _ | .snil | .mnil | .fnil | .inil => true
  | .ifc _ a => plain a
  | .agg l => plainL l
  | .tup l => plainL l
  | _ => false
def plainL : List AV → Bool
  | [] => true
  | a :: l => plain a && plainL l
end

/-- What is known of the functions that we do not run. -/
structure Exts (E : Env) (B : Nat) : Prop where
  plain : ∀ e ∈ E.memo, plainL e.2.1 = true ∧ Gx.plain e.2.2 = true
  one : ∀ f, E.ext.get f = some 1 → ∀ v w, (callFunc f #[v]).run E.P w = .ok (.value v) w
  two : ∀ f, E.ext.get f = some 2 → ∀ (n : Nat), n ≤ 1048576 → ∀ w : World, ∃ (arr : Array Value) (d : Nat), n ≤ arr.size ∧
    (callFunc f #[.int .i64 n]).run E.P w = .ok (.value (.slice (some ⟨w.heap.size, 0, none⟩) n arr.size)) { w with drawn := d, heap := w.heap.push (.cells arr E.P.rt.byte (0, 0)) }
  memo : ∀ e ∈ E.memo, ∀ w, Globs E B w → B ≤ w.heap.size → ∀ args : Array Value, RvL (fun _ => none) e.2.1 args.toList → ∀ cs, ∃ v w', Ends E.P e.1 args w cs v w' ∧ Rv (fun _ => none) e.2.2 v ∧
    Fr (fun _ => none) ⟨.nil, 0⟩ w w'

theorem amemo_mem {f : FuncId} {args : List AV} {v : AV} : ∀ {l : List (FuncId × List AV × AV)}, amemo f args l = some v → (f, args, v) ∈ l
  | [], h => by cases h
  | (g, as, u) :: l, h => by
    unfold amemo at h
    split at h
    · rename_i hc
      rw [Bool.and_eq_true] at hc
      have h1 := Nat.eq_of_beq_eq_true hc.1
      have h2 := aveqL_eq hc.2
      cases h
      rw [h1, h2]
      exact .head _
    · exact .tail _ (amemo_mem h)

/-- Memory has grown behind us. -/
theorem RelH.grow {B : Nat} {ρ : Ren} {H : St} {w w' : World} (h : RelH B ρ H w) (hf : Fr (fun _ => none) ⟨.nil, 0⟩ w w') : Res B ρ H w ρ H w' := by
  have hold : ∀ b, b < w.heap.size → w'.heap[b]? = w.heap[b]? := fun b hb => hf.old b hb (by rintro ⟨i, k, hk, _⟩; cases hk)
  refine ⟨⟨Le.refl ρ, Nat.le_refl _, fun _ _ h => h, fun _ h _ => ⟨h, rfl⟩⟩, ⟨hf.size, fun b hb _ => hold b hb, hf.tape, hf.os, hf.output⟩,
    ⟨h.fresh, h.base, fun i k e => Nat.lt_of_lt_of_le (h.lt i k e) hf.size, h.inj, h.live, fun i A k hg e => ?_⟩⟩
  obtain ⟨o, ho, hr⟩ := h.blk i A k hg e
  exact ⟨o, by rw [hold _ (h.lt i k e)]; exact ho, hr⟩

mutual
theorem Rv.plain {ρ ρ' : Ren} : ∀ {a : AV} {v : Value}, Rv ρ a v → Gx.plain a = true → Rv ρ' a v
  | _, _, .any v, h => by cases h
  | _, _, .bool b, _ => .bool b
  | _, _, .int k n, _ => .int k n
  | _, _, .str e, _ => .str e
  | _, _, .pnil, _ => .pnil
  | _, _, .ptr _, h => by cases h
  | _, _, .gptr, _ => .gptr
  | _, _, .snil, _ => .snil
  | _, _, .slice _ _, h => by cases h
  | _, _, .gslice _ _ _, h => by cases h
  | _, _, .eslice _, h => by cases h
  | _, _, .mnil, _ => .mnil
  | _, _, .map _, h => by cases h
  | _, _, .fnil, _ => .fnil
  | _, _, .fn _ _, h => by cases h
  | _, _, .yield _, h => by cases h
  | _, _, .inil, _ => .inil
  | _, _, .ifc e, h => .ifc (Rv.plain e h)
  | _, _, .agg e, h => .agg (RvL.plain e h)
  | _, _, .tup e, h => .tup (RvL.plain e h)
theorem RvL.plain {ρ ρ' : Ren} : ∀ {l : List AV} {vs : List Value}, RvL ρ l vs → plainL l = true → RvL ρ' l vs
  | _, _, .nil, _ => .nil
  | _, _, .cons e r, h => by
    simp only [plainL, Bool.and_eq_true] at h
    exact .cons (Rv.plain e h.1) (RvL.plain r h.2)
end

section
variable {E : Env} (hE : E.Ok) {B : Nat} (hX : Exts E B) {self : List AFr → St → Option Out} (hs : Good E B self) {ρ : Ren} {H : St} {w : World} (hK : Ok E B ρ H w) {cs : List Frame} {r : Out}

include hE in
theorem aenter_ok {f : FuncId} {args : List AV} {kind : CallKind} {k : AFr → Option Out} {argv : Array Value} (h : aenter E f args kind k = some r) (hv : RvL ρ args argv.toList) :
    ∃ c, k c = some r ∧ RelF ρ c (Frame.enter E.P f argv kind) ∧ ∀ u : World, (callFunc f argv).run E.P u = .ok (.enter f argv) u := by
  unfold aenter at h
  split at h <;> first | cases h | skip
  rename_i fn hfn
  obtain ⟨h1, h2, h3⟩ := hE.fun' _ _ hfn
  split at h <;> first | cases h | skip
  rename_i body hbody
  rw [Tr.putLK_eq] at h
  have hlen := hv.length
  simp only [Array.length_toList] at hlen
  refine ⟨_, h, ⟨rfl, ⟨?_, fun i a ha => ?_⟩, ?_, .nil, .run, rfl, .none⟩, fun u => ?_⟩
  · simp only [Frame.enter, h1, Option.map_some, Option.getD_some, Array.size_append, Array.size_replicate]; omega
  · rw [Tr.get_putL] at ha
    split at ha
    · rename_i hi
      simp only [Nat.sub_zero] at ha
      obtain ⟨v, hv', hr⟩ := hv.get ha
      refine ⟨by simp only; omega, v, ?_, hr⟩
      simp only [Frame.enter]
      rw [Array.getElem?_append_left (by omega)]
      simpa using hv'
    · cases ha
  · simp only [Frame.enter, h1, Option.bind_some, hbody, Option.getD_some]
    exact .cons (.code _) .nil
  · have hb : fn.body.isNone = false := by rw [hbody]; rfl
    simp only [callFunc, Sem.run_bind, run_program, Result.andThen_ok, h1, h2, hb, Bool.false_eq_true, if_false, Sem.run_pure]

include hX hK

/-- The call of a function that we do not run. -/
theorem aextern_ok (cs : List Frame) {f : FuncId} {args : List AV} {k : AV → St → Option Out} {argv : Array Value} (h : aextern E H f args k = some r) (hv : RvL ρ args argv.toList) :
    ∃ a H' v ρ' w', k a H' = some r ∧ Ends E.P f argv w cs v w' ∧ Rv ρ' a v ∧ Res B ρ H w ρ' H' w' := by
  unfold aextern at h
  split at h <;> first | cases h | skip
  · rename_i x hext
    obtain ⟨l⟩ := argv
    simp only at hv
    cases hv with
    | cons e r =>
      cases r
      exact ⟨x, H, _, ρ, w, h, .inl (hX.one _ hext _ _), e, .refl hK.rel⟩
  · rename_i i hext
    split at h <;> first | cases h | skip
    rename_i n hn
    have hn := nat?_eq hn
    subst hn
    split at h <;> first | cases h | skip
    rename_i hle
    have hle := Nat.le_of_ble_eq_true hle
    obtain ⟨l⟩ := argv
    simp only at hv
    cases hv with
    | cons e r =>
      cases r
      cases e
      obtain ⟨arr, d, g1, g2⟩ := hX.two _ hext n hle w
      have hd := hK.rel.drew d
      have hrb : RelB ρ (.cells .nil 0 E.P.rt.byte 1 true) arr.size (.cells arr E.P.rt.byte (0, 0)) :=
        .cells (fun i a ha => by simp at ha) (Nat.zero_le _) (fun h => by cases h) (.inl ⟨rfl, rfl⟩)
      obtain ⟨H', ρ', id, q1, q2, q3, q4⟩ := newBlk_ok hd.rel h hK.le hrb
      refine ⟨_, H', _, ρ', _, q1, .inl g2, .gslice q2 g1 (by simp), hd.trans q4⟩
  · rename_i hext
    split at h <;> first | cases h | skip
    rename_i v hm
    have hmem := amemo_mem hm
    obtain ⟨hp1, hp2⟩ := hX.plain _ hmem
    obtain ⟨vv, w', g1, g2, g3⟩ := hX.memo _ hmem w hK.glo hK.le argv (hv.plain hp1) cs
    exact ⟨v, H, vv, ρ, w', h, g1, g2.plain hp2, hK.rel.grow g3⟩

end

end Go.Gx

namespace Go.Gx
open Go

/- Steps of the model's machine. -/

section
variable {P : Program} {fr : Frame} {cs : List Frame} {s : Sem Next} {w w' : World} {m : Machine}

/-- The machine `m` does `s` next, for the frame `fr`. -/
def Doing (P : Program) (m : Machine) (fr : Frame) (cs : List Frame) (s : Sem Next) (w : World) : Prop :=
  ∀ fr' cs' w', (stepG.apply P true fr cs none s w).bare = .go { frame := fr', callers := cs', status := .running, dying := none } w' → step P m = .next (lone fr' cs' w')

theorem Doing.value {v : Value} (h : Doing P m fr cs s w) (hr : s.run P w = .ok (.value v) w') : step P m = .next (lone (fr.finish v) cs w') := h _ _ _ (by simp [stepG.apply, hr])
theorem Doing.skip (h : Doing P m fr cs s w) (hr : s.run P w = .ok .skip w') : step P m = .next (lone (fr.finish undef) cs w') := h _ _ _ (by simp [stepG.apply, hr])
theorem Doing.enter {f : FuncId} {args : Array Value} (h : Doing P m fr cs s w) (hr : s.run P w = .ok (.enter f args) w') (hk : ∀ d b x y k, fr.todo ≠ .call d b x y :: k) :
    step P m = .next (lone (Frame.enter P f args .normal) (fr :: cs) w') := h _ _ _ (by
  simp [stepG.apply, hr]
  split
  · rename_i heq; exact absurd heq (hk _ _ _ _ _)
  · rfl)
theorem Doing.round {l : Nat} {f : FuncId} {tmps : Array Value} {a b : Code} (h : Doing P m fr cs s w) (hr : s.run P w = .ok (.round l f tmps a b) w') :
    step P m = .next (lone (Frame.round l f tmps a b .normal) (fr :: cs) w') := h _ _ _ (by simp [stepG.apply, hr])
theorem Doing.defer {d : Deferred} (h : Doing P m fr cs s w) (hr : s.run P w = .ok (.defer d) w') : step P m = .next (lone ({ fr with defers := d :: fr.defers }.finish undef) cs w') := h _ _ _ (by simp [stepG.apply, hr])
theorem Doing.panic {v : Value} (h : Doing P m fr cs s w) (hr : s.run P w = .halt (.panic v) w') : step P m = .next (lone (fr.raise [{ v, recovered := false }]) cs w') := h _ _ _ (by simp [stepG.apply, hr])
theorem Doing.recover_some {v : Value} {cs' : List Frame} (h : Doing P m fr cs s w) (hr : s.run P w = .ok .recover w') (h0 : fr.roundOf = none) (ht : tryRecover fr cs = some (v, cs')) : step P m = .next (lone (fr.finish v) cs' w') :=
  h _ _ _ (by simp [stepG.apply, hr, h0, ht])
theorem Doing.recover_none (h : Doing P m fr cs s w) (hr : s.run P w = .ok .recover w') (h0 : fr.roundOf = none) (ht : tryRecover fr cs = none) : step P m = .next (lone (fr.finish .nilIface) cs w') :=
  h _ _ _ (by simp [stepG.apply, hr, h0, ht])

/-- An operation of a region. -/
theorem Doing.op {ops : Array Oper} {i : Nat} {is : List Nat} {k : List Item} {o : Oper} (hm : fr.mode = .run) (ht : fr.todo = .inRegion ops (i :: is) :: k) (ho : ops[i]? = some o) (hw : Region.wanted o (yielded ops fr.tmps) = true)
    (hd : fr.roundOf = none ∨ ∀ c, o.op ≠ .defer c) : Doing P (lone fr cs w) fr cs (execOp fr.eval o) w := by
  intro fr' cs' w' h
  refine step_lone_go ?_
  rw [← h]
  have hop : fr.oper? = some o := by simp [Frame.oper?, ht, ho]
  have hoper : stepG.oper P true fr cs none w = stepG.apply P true fr cs none (execOp fr.eval o) w := by
    unfold stepG.oper
    simp only [hop]
    rcases hd with hd | hd
    · simp only [hd]
    · split
      · rename_i heq; exact absurd heq (hd _)
      · rfl
  simp only [stepG, hm, stepG.exec, ht, ho, Option.map_some, Option.getD_some, hw, if_true, hoper]

/-- An operation that is not wanted. -/
theorem step_unwanted {ops : Array Oper} {i : Nat} {is : List Nat} {k : List Item} {o : Oper} (hm : fr.mode = .run) (ht : fr.todo = .inRegion ops (i :: is) :: k) (ho : ops[i]? = some o) (hw : Region.wanted o (yielded ops fr.tmps) = false) :
    step P (lone fr cs w) = .next (lone (fr.finish undef) cs w) :=
  step_lone_go (by simp [stepG, hm, stepG.exec, ht, ho, hw])

theorem step_regionEnd {ops : Array Oper} {k : List Item} (hm : fr.mode = .run) (ht : fr.todo = .inRegion ops [] :: k) : step P (lone fr cs w) = .next (lone { fr with todo := k } cs w) :=
  step_lone_go (by simp [stepG, hm, stepG.exec, ht])

theorem step_leaves {c : Frame} {v : Value} (h : fr.leaving P w (.returned v)) : step P (lone fr (c :: cs) w) = .next (lone (c.finish v) cs w) := step_leave_returned h

/-- A call comes to its end, and its value to the frame that waits for it. -/
theorem Doing.ends {f : FuncId} {args : Array Value} {v : Value} (h : Doing P m fr cs s w) (hs : ∀ u, s.run P u = (callFunc f args).run P u) (he : Ends P f args w (fr :: cs) v w') (hk : ∀ d b x y k, fr.todo ≠ .call d b x y :: k) :
    Steps P m (lone (fr.finish v) cs w') := by
  rcases he with he | ⟨he, hc⟩
  · exact .one (h.value (by rw [hs]; exact he))
  · obtain ⟨c, h1, h2⟩ := hc
    exact .head (h.enter (by rw [hs]; exact he) hk) (h1.trans (.one (step_leave_returned h2)))

end

/-- A machine goes to its end. -/
def GoalM (E : Env) (B : Nat) (ρ : Ren) (H : St) (w : World) (m : Machine) (cs : List Frame) (b : FuncId) (r : Out) : Prop :=
  ∃ ρ' w' fr v, Steps E.P m (lone fr cs w') ∧ fr.leaving E.P w' (.returned v) ∧ fr.fn = b ∧ Rv ρ' r.1 v ∧ Res B ρ H w ρ' r.2 w'

theorem GoalM.of {E : Env} {B : Nat} {ρ ρ' : Ren} {H H' : St} {w w' : World} {m : Machine} {frs' cs : List Frame} {b : FuncId} {r : Out} (hs : Steps E.P m (conf frs' cs w')) (hr : Res B ρ H w ρ' H' w')
    (h : Goal E B ρ' H' w' frs' cs b r) : GoalM E B ρ H w m cs b r := by
  obtain ⟨ρ'', w'', fr, v, h1, h2, h3, h4, h5⟩ := h
  exact ⟨ρ'', w'', fr, v, hs.trans h1, h2, h3, h4, hr.trans h5⟩

theorem RelIts.nocall {ρ : Ren} {l : List AIt} {is : List Item} (h : RelIts ρ l is) : ∀ d b x y k, is ≠ .call d b x y :: k := by
  intro d b x y k e
  subst e
  cases h with
  | cons e r => cases e

theorem wanted_ok {ρ : Ren} {tm : Tr AV} {n : Nat} {vs : Array Value} {ops : Array Oper} {o : Oper} {b : Bool} (h : awanted ops.toList tm o = some b) (ht : RvT ρ tm n vs) : Region.wanted o (yielded ops vs) = b := by
  unfold awanted at h
  unfold Region.wanted
  split at h
  · rename_i hg; cases h; rw [hg]
  · rename_i j want hg
    rw [hg]
    simp only
    split at h <;> first | cases h | skip
    rename_i p hp
    have hp' : ops[j]? = some p := by simpa using hp
    split at h <;> first | cases h | skip
    rename_i d hd
    unfold yielded
    simp only [hp', Option.bind_some, hd]
    split at h <;> first | cases h | skip
    · rename_i b' hb
      obtain ⟨_, v, hv, hr⟩ := ht.2 d _ hb
      cases hr
      rw [hv]
      cases b' <;> cases want <;> rfl
    · rename_i hb
      obtain ⟨_, v, hv, hr⟩ := ht.2 d _ hb
      cases hr
      rw [hv]; rfl

end Go.Gx

namespace Go.Gx
open Go

/- The calls of our machine. -/

theorem base_cons (a b : AFr) (fs : List AFr) (h : a.fn = b.fn) : base (a :: fs) = base (b :: fs) := by
  cases fs
  · simp [base, h]
  · rfl

theorem roundTmps_ok {ρ : Ren} {k : Tr AV → Option Out} {r : Out} {n : Nat} : ∀ {ps : List Tmp} {as : List AV} {t : Tr AV} {vs : Array Value} {us : List Value}, roundTmps t n ps as k = some r → RvT ρ t n vs → RvL ρ as us →
    us.length = ps.length ∧ ∃ t', k t' = some r ∧ RvT ρ t' n ((ps.zip us).foldl (fun tmps (t, a) => tmps.setIfInBounds t a) vs)
  | [], [], t, vs, _, h, ht, .nil => ⟨rfl, t, h, ht⟩
  | [], _ :: _, _, _, _, h, _, _ => by cases h
  | _ :: _, [], _, _, _, h, _, _ => by cases h
  | p :: ps, a :: as, t, vs, _, h, ht, .cons (v := v) (vs := us) e r => by
    unfold roundTmps at h
    split at h
    case h_2 => cases h
    rename_i hlt
    have hlt := blt_lt hlt
    rw [Tr.setK_eq] at h
    have h2 : RvT ρ (t.set p (some a)) n (vs.setIfInBounds p v) := by
      refine ⟨by simpa using ht.1, fun i a' ha => ?_⟩
      by_cases e' : i = p
      · subst e'
        rw [Tr.get_set_same] at ha; cases ha
        exact ⟨hlt, v, by rw [Array.getElem?_setIfInBounds_self_of_lt (by have := ht.1; omega)], e⟩
      · rw [Tr.get_set_ne _ _ _ e'] at ha
        obtain ⟨h1, v', h2, h3⟩ := ht.2 i a' ha
        exact ⟨h1, v', by rw [Array.getElem?_setIfInBounds_ne (Ne.symm e')]; exact h2, h3⟩
    obtain ⟨h3, t', h4, h5⟩ := roundTmps_ok h h2 r
    exact ⟨by simp [h3], t', h4, by simpa using h5⟩

theorem Goal.rebase {E : Env} {B : Nat} {ρ : Ren} {H : St} {w : World} {frs cs : List Frame} {a : AFr} (b : AFr) {fs : List AFr} {r : Out} (h : a.fn = b.fn) (g : Goal E B ρ H w frs cs (base (b :: fs)) r) :
    Goal E B ρ H w frs cs (base (a :: fs)) r := by rwa [base_cons a b fs h]

section
variable {E : Env} (hE : E.Ok) {B : Nat} (hX : Exts E B) {self : List AFr → St → Option Out} (hs : Good E B self) {ρ : Ren} {H : St} {w : World} (hK : Ok E B ρ H w) {cs : List Frame} {r : Out}
include hE hX hs hK

/-- A function value is called; the machine `m` does so next. -/
theorem ainvoke_ok {f : AFr} {fs : List AFr} {v : AV} {args : List AV} {fr : Frame} {frs : List Frame} {vv : Value} {argv : Array Value} {s : Sem Next} {m : Machine} (h : ainvoke E self f fs v args H = some r)
    (hf : RelF ρ f fr) (hfs : RelS ρ fs frs) (hv : Rv ρ v vv) (ha : RvL ρ args argv.toList) (hd : Doing E.P m fr (frs ++ cs) s w)
    (hsr : s.run E.P w = (do let d ← Deferred.ofValue vv argv; invoke d.target d.args : Sem Next).run E.P w) (hsr' : ∀ u, s.run E.P u = (do let d ← Deferred.ofValue vv argv; invoke d.target d.args : Sem Next).run E.P u) :
    GoalM E B ρ H w m cs (base (f :: fs)) r := by
  unfold ainvoke at h
  split at h <;> first | cases h | skip
  · rename_i g first cap
    cases hv with
    | fn h1 h2 =>
      rename_i c d
      have hargs : RvL ρ (first ++ args ++ cap) (c ++ argv ++ d).toList := by
        simp only [Array.toList_append]; exact (h1.append ha).append h2
      have hcall : ∀ u, s.run E.P u = (callFunc g (c ++ argv ++ d)).run E.P u := by
        intro u; rw [hsr']; simp [Deferred.ofValue, invoke]
      split at h
      · obtain ⟨a, H', v, ρ', w', g1, g2, g3, g4⟩ := aextern_ok hX hK (fr :: (frs ++ cs)) h hargs
        have hst := hd.ends hcall g2 hf.todo.nocall
        exact GoalM.of (frs' := fr.finish v :: frs) hst g4 (afinish_ok hs (hK.res g4) g1 (hf.mono g4.ext.le) (hfs.mono g4.ext.le) g3)
      · obtain ⟨c', g1, g2, g3⟩ := aenter_ok hE (kind := .normal) h hargs
        have hst := hd.enter (by rw [hcall]; exact g3 w) hf.todo.nocall
        have := hs _ _ _ g1 ρ w (Frame.enter E.P g (c ++ argv ++ d) .normal :: fr :: frs) cs (.cons g2 (.cons hf hfs)) hK
        exact GoalM.of (frs' := Frame.enter E.P g (c ++ argv ++ d) .normal :: fr :: frs) (.one hst) (.refl hK.rel) this
  · rename_i l
    split at h <;> first | cases h | skip
    rename_i st pend fn t n ps as b db hb
    cases hv with
    | yield hl =>
      rename_i kl
      obtain ⟨o, ho, hr⟩ := hK.rel.blk l _ kl hb hl
      generalize kl.tot = tot at hr
      cases hr with
      | loop ht hdb =>
        rename_i tmps params kd
        obtain ⟨g1, t', g2, g3⟩ := roundTmps_ok h ht ha
        have hgl : (getObj kl.b).run E.P w = .ok (.loop ⟨st, pend, fn, tmps, params, as, b, kd.b⟩) w := getObj_other ho (by intros; simp)
        simp only [Array.length_toList] at g1
        have hne : ¬ argv.size ≠ params.size := by omega
        have hfold : (params.zip argv).foldl (fun tmps (t, a) => tmps.setIfInBounds t a) tmps = (params.toList.zip argv.toList).foldl (fun tmps (t, a) => tmps.setIfInBounds t a) tmps := by
          rw [← Array.foldl_toList, Array.toList_zip]
        have hrun : s.run E.P w = .ok (.round kl.b fn ((params.zip argv).foldl (fun tmps (t, a) => tmps.setIfInBounds t a) tmps) as b) w := by
          rw [hsr]
          simp only [Deferred.ofValue, invoke, Instr.yield, Instr.getLoop, Sem.run_bind, Sem.run_pure, Result.andThen_ok, hgl, Array.empty_append, if_neg hne]
        have hst := hd.round hrun
        rw [hfold] at hst
        obtain ⟨fr', hfr'⟩ : ∃ fr', fr' = Frame.round kl.b fn ((params.toList.zip argv.toList).foldl (fun tmps (t, a) => tmps.setIfInBounds t a) tmps) as b .normal := ⟨_, rfl⟩
        rw [← hfr'] at hst
        have := hs _ _ _ g2 ρ w (fr' :: fr :: frs) cs (.cons (by rw [hfr']; exact ⟨rfl, g3, .cons (.code _) (.cons .beginRound (.cons (.code _) .nil)), .nil, .run, rfl, .some hl⟩) (.cons hf hfs)) hK
        exact GoalM.of (frs' := fr' :: fr :: frs) (.one hst) (.refl hK.rel) this

omit hE hX in
theorem araise_ok {f : AFr} {fs : List AFr} {fr : Frame} {frs : List Frame} {vs : List (AV × Bool)} {cv : List PanicEntry} (h : araise self f fs vs H = some r) (hf : RelF ρ f fr) (hfs : RelS ρ fs frs) (hv : RelCh ρ vs cv) :
    Goal E B ρ H w (fr.raise cv :: frs) cs (base (f :: fs)) r := by
  obtain ⟨fn, ntm, tm, todo, ds, md, kd, rnd⟩ := f
  have happ : ∀ {l l' : List (AV × Bool)} {c c' : List PanicEntry}, RelCh ρ l c → RelCh ρ l' c' → RelCh ρ (l ++ l') (c ++ c') := by
    intro l l' c c' h1 h2
    induction h1 with
    | nil => exact h2
    | cons e _ ih => exact .cons e ih
  have use : ∀ md' fmd, self (⟨fn, ntm, tm, todo, ds, md', kd, rnd⟩ :: fs) H = some r → RelMd ρ md' fmd → Goal E B ρ H w ({ fr with mode := fmd } :: frs) cs (base (⟨fn, ntm, tm, todo, ds, md, kd, rnd⟩ :: fs)) r := by
    intro md' fmd h' hm
    rw [base_cons ⟨fn, ntm, tm, todo, ds, md, kd, rnd⟩ ⟨fn, ntm, tm, todo, ds, md', kd, rnd⟩ fs rfl]
    exact hs _ _ _ h' ρ w _ cs (.cons ⟨hf.fn, hf.tmps, hf.todo, hf.defers, hm, hf.kind, hf.rnd⟩ hfs) hK
  unfold araise at h
  simp only at h
  have hmd := hf.mode
  unfold Frame.raise
  generalize hfm : fr.mode = fm at hmd
  cases hmd with
  | run => exact use _ _ (by simpa using h) (.pan hv)
  | ret => exact use _ _ (by simpa using h) (.pan hv)
  | pan hc => exact use _ _ (by simpa using h) (.pan (happ hv hc))

omit hE hX in
theorem arecover_ok {f : AFr} {fs : List AFr} {fr : Frame} {frs : List Frame} {s : Sem Next} {m : Machine} (h : arecover self f fs H = some r) (hf : RelF ρ f fr) (hfs : RelS ρ fs frs) (hd : Doing E.P m fr (frs ++ cs) s w)
    (hsr : s.run E.P w = .ok .recover w) : GoalM E B ρ H w m cs (base (f :: fs)) r := by
  unfold arecover at h
  split at h <;> first | cases h | skip
  · rename_i x1 x2 x3 fn ntm tm todo ds md kd rnd l hrnd hkind
    have h0 : fr.roundOf = none := by
      have := hf.rnd
      rw [hrnd] at this
      generalize fr.roundOf = ro at this
      cases this; rfl
    have hk : fr.kind = .deferred := hf.kind.trans hkind
    cases hfs with
    | cons hc hl =>
      rename_i c l'
      have hmd := hc.mode
      have none' : (∀ v o, c.mode ≠ .panicking ({ v, recovered := false, goexit := false } :: o)) → afinish self f (⟨fn, ntm, tm, todo, ds, md, kd, rnd⟩ :: l) .inil H = some r →
          GoalM E B ρ H w m cs (base (f :: ⟨fn, ntm, tm, todo, ds, md, kd, rnd⟩ :: l)) r := by
        intro hn h'
        have ht : tryRecover fr ((c :: l') ++ cs) = none := by
          unfold tryRecover
          simp only [hk, List.cons_append]
        exact GoalM.of (frs' := fr.finish .nilIface :: c :: l') (.one (hd.recover_none hsr h0 ht)) (.refl hK.rel) (afinish_ok hs hK h' hf (.cons hc hl) .inil)
      generalize hfm : c.mode = fm at hmd
      simp only at hmd h
      cases hmd with
      | run => exact none' (by rw [hfm]; intros; simp) h
      | ret => exact none' (by rw [hfm]; intros; simp) h
      | pan hch =>
        cases hch with
        | nil => exact none' (by rw [hfm]; intros; simp) h
        | cons e hch =>
          rename_i a b v l'' c''
          cases b with
          | true => exact none' (by rw [hfm]; intros; simp) h
          | false =>
            simp only at h
            have ht : tryRecover fr ((c :: l') ++ cs) = some (v, { c with mode := .panicking ({ v, recovered := true } :: c'') } :: (l' ++ cs)) := by
              unfold tryRecover
              simp only [hk, List.cons_append, hfm]
            have hgo := afinish_ok (cs := cs) hs hK h hf (.cons (f := { c with mode := .panicking ({ v, recovered := true } :: c'') }) ⟨hc.fn, hc.tmps, hc.todo, hc.defers, .pan (.cons e hch), hc.kind, hc.rnd⟩ hl) e
            have hb : base (f :: ⟨fn, ntm, tm, todo, ds, .pan ((a, false) :: l''), kd, rnd⟩ :: l) = base (f :: ⟨fn, ntm, tm, todo, ds, .pan ((a, true) :: l''), kd, rnd⟩ :: l) := base_cons _ _ l rfl
            rw [hb]
            exact GoalM.of (frs' := fr.finish v :: { c with mode := .panicking ({ v, recovered := true } :: c'') } :: l') (.one (hd.recover_some hsr h0 ht)) (.refl hK.rel) hgo
  · rename_i x1 x2 x3 hrnd hkind
    have h0 : fr.roundOf = none := by
      have := hf.rnd
      rw [hrnd] at this
      generalize fr.roundOf = ro at this
      cases this; rfl
    have hk : fr.kind = .normal := hf.kind.trans hkind
    have ht : tryRecover fr (frs ++ cs) = none := by
      unfold tryRecover
      simp only [hk]
    exact GoalM.of (frs' := fr.finish .nilIface :: frs) (.one (hd.recover_none hsr h0 ht)) (.refl hK.rel) (afinish_ok hs hK h hf hfs .inil)


omit hE hX hs hK in
theorem ofCallee {ρ : Ren} {tm : Tr AV} {ev : Operand → Value} (hev : EvR ρ tm ev) {c : Call} {v : AV} {args : List AV} (h : acallee tm c = some (v, args)) :
    ∃ f, c.callee = .value f ∧ Rv ρ v (ev f) ∧ RvL ρ args (c.args.map ev).toList := by
  unfold acallee at h
  split at h <;> first | cases h | skip
  rename_i f hf
  split at h <;> first | cases h | skip
  rename_i v' l hv hl
  exact ⟨f, hf, hev _ _ hv, by simpa using opvs_rv hev hl⟩

/-- A call, a deferred one, a panic. -/
theorem acallop_ok {fn : FuncId} {ntm : Nat} {ds : List ADf} {kd : CallKind} {rnd : Option Nat} {fs : List AFr} {ops : Array Oper} {o : Oper} {rest : List Oper} {k : List AIt} {tm : Tr AV}
    (h : acallop E self fn ntm ds .run kd rnd fs ops.toList o rest k tm H = some r) (hcls : cls E o.op = .call) {fr : Frame} {frs : List Frame} (hf : RelF ρ ⟨fn, ntm, tm, .ops ops.toList (o :: rest) :: k, ds, .run, kd, rnd⟩ fr) (hfs : RelS ρ fs frs)
    (hw : Region.wanted o (yielded ops fr.tmps) = true) : Goal E B ρ H w (fr :: frs) cs (base (⟨fn, ntm, tm, .ops ops.toList (o :: rest) :: k, ds, .run, kd, rnd⟩ :: fs)) r := by
  obtain ⟨ops', i, is, k', htodo, hall, ho, hrest, hk⟩ := hf.todo.ops_inv
  have hops : ops = ops' := Array.toList_inj.1 hall
  subst hops
  have hm : fr.mode = .run := by
    have := hf.mode
    generalize fr.mode = md at this
    cases this; rfl
  have hev : EvR ρ tm fr.eval := hf.eval
  unfold acallop at h
  split at h <;> first | cases h | skip
  · -- a call
    rename_i c hop
    have hd : Doing E.P (lone fr (frs ++ cs) w) fr (frs ++ cs) (execOp fr.eval o) w := Doing.op hm htodo ho hw (.inr (by rw [hop]; intro c' e; cases e))
    split at h
    · -- recover
      rename_i b hb
      have hrec : b = .recover := by
        rw [hop] at hcls
        obtain ⟨cal, args, ats⟩ := c
        simp only at hb
        subst hb
        revert hcls
        unfold cls
        simp only
        cases b <;> simp
        repeat' split
        all_goals simp
      subst hrec
      refine arecover_ok hs hK h hf hfs hd ?_
      simp only [execOp, hop, resolve, hb, Sem.run_bind, Sem.run_pure, Result.andThen_ok, invoke, builtin]
    · split at h <;> first | cases h | skip
      rename_i v args hc
      obtain ⟨f, hf', hv, ha⟩ := ofCallee hev hc
      have hrun : ∀ u, (execOp fr.eval o).run E.P u = (do let d ← Deferred.ofValue (fr.eval f) (c.args.map fr.eval); invoke d.target d.args : Sem Next).run E.P u := by
        intro u
        simp only [execOp, hop, resolve, hf']
      exact ainvoke_ok hE hX hs hK h hf hfs hv ha hd (hrun w) hrun
  · -- a deferred call
    rename_i c hop
    split at h <;> first | cases h | skip
    rename_i d hd'
    have h0 : fr.roundOf = none := by
      have := hf.rnd
      generalize fr.roundOf = ro at this
      cases this; rfl
    have hd : Doing E.P (lone fr (frs ++ cs) w) fr (frs ++ cs) (execOp fr.eval o) w := Doing.op hm htodo ho hw (.inl h0)
    unfold adeferred at hd'
    split at hd' <;> first | cases hd' | skip
    rename_i g first cap args hc
    obtain ⟨f, hf', hv, ha⟩ := ofCallee hev hc
    generalize hvv : fr.eval f = vv at hv
    cases hv with
    | fn h1 h2 =>
      rename_i cv dv
      have hrun : (execOp fr.eval o).run E.P w = .ok (.defer ⟨.fn (.func g) dv, cv ++ c.args.map fr.eval⟩) w := by
        simp only [execOp, hop, resolve, hf', hvv, Deferred.ofValue, Sem.run_bind, Sem.run_pure, Result.andThen_ok]
      have hst := hd.defer hrun
      obtain ⟨tm', q1, q2⟩ := aput_ok h hf.tmps (undef_rv ρ)
      refine Goal.rebase ⟨fn, ntm, tm', .ops ops.toList rest :: k, .call g (first ++ args) cap :: ds, .run, kd, none⟩ rfl ?_
      have hfin : ({ fr with defers := ⟨.fn (.func g) dv, cv ++ c.args.map fr.eval⟩ :: fr.defers } : Frame).finish undef =
          { fr with tmps := putV fr.tmps o.dst undef, todo := .inRegion ops is :: k', defers := ⟨.fn (.func g) dv, cv ++ c.args.map fr.eval⟩ :: fr.defers } := by
        unfold Frame.finish putV
        simp only [htodo, ho, Option.bind_some]
        rfl
      rw [hfin] at hst
      refine Goal.same (frs' := _ :: frs) (.one hst) (hs _ _ _ q1 ρ w _ cs (.cons ⟨hf.fn, q2, .cons hrest hk, .cons (.call (by simpa using h1.append ha) h2) hf.defers, hf.mode, hf.kind, hf.rnd⟩ hfs) hK)
  · -- a panic
    rename_i x hop
    split at h <;> first | cases h | skip
    rename_i t v hx
    have hd : Doing E.P (lone fr (frs ++ cs) w) fr (frs ++ cs) (execOp fr.eval o) w := Doing.op hm htodo ho hw (.inr (by rw [hop]; intro c' e; cases e))
    have hxv := hev _ _ hx
    generalize hvv : fr.eval x = vv at hxv
    cases hxv with
    | ifc hv =>
      rename_i v'
      have hrun : (execOp fr.eval o).run E.P w = .halt (.panic (.iface t v')) w := by
        simp only [execOp, hop, hvv, Instr.panic, Sem.run_bind, run_goPanic]; rfl
      exact Goal.same (frs' := fr.raise [{ v := .iface t v', recovered := false }] :: frs) (.one (hd.panic hrun)) (araise_ok hs hK h hf hfs (.cons (.ifc hv) .nil))

omit hK in
/-- The operations of a region, up to its end. -/
theorem aops_ok {fn : FuncId} {ntm : Nat} {ds : List ADf} {kd : CallKind} {rnd : Option Nat} {fs : List AFr} {ops : Array Oper} {k : List AIt} : ∀ {rest : List Oper} {tm : Tr AV} {ρ : Ren} {H : St} {w : World} {fr : Frame} {frs : List Frame},
    aops E self fn ntm ds .run kd rnd fs ops.toList k rest tm H = some r → RelF ρ ⟨fn, ntm, tm, .ops ops.toList rest :: k, ds, .run, kd, rnd⟩ fr → RelS ρ fs frs → Ok E B ρ H w →
    Goal E B ρ H w (fr :: frs) cs (base (⟨fn, ntm, tm, .ops ops.toList rest :: k, ds, .run, kd, rnd⟩ :: fs)) r
  | [], tm, ρ, H, w, fr, frs, h, hf, hfs, hK => by
    unfold aops at h
    have hm : fr.mode = .run := by
      have := hf.mode
      generalize fr.mode = md at this
      cases this; rfl
    have ht := hf.todo
    generalize htd : fr.todo = td at ht
    cases ht with
    | cons e hk =>
      generalize hal : ops.toList = all at e
      cases e with
      | ops e =>
        rename_i is' ops' is
        have : is = [] := by cases is with | nil => rfl | cons _ _ => simp at e
        subst this
        refine Goal.rebase ⟨fn, ntm, tm, k, ds, .run, kd, rnd⟩ rfl ?_
        exact Goal.same (frs' := { fr with todo := is' } :: frs) (.one (step_regionEnd hm htd)) (hs _ _ _ h ρ w _ cs (.cons ⟨hf.fn, hf.tmps, hk, hf.defers, hf.mode, hf.kind, hf.rnd⟩ hfs) hK)
  | o :: rest, tm, ρ, H, w, fr, frs, h, hf, hfs, hK => by
    have hm : fr.mode = .run := by
      have := hf.mode
      generalize fr.mode = md at this
      cases this; rfl
    obtain ⟨ops', i, is, k', htodo, hall, ho, hrest, hk⟩ := hf.todo.ops_inv
    have hops : ops = ops' := Array.toList_inj.1 hall
    subst hops
    have hfin : ∀ v, fr.finish v = { fr with tmps := putV fr.tmps o.dst v, todo := .inRegion ops is :: k' } := by
      intro v
      unfold Frame.finish putV
      simp only [htodo, ho, Option.bind_some]
      rfl
    unfold aops at h
    split at h
    · cases h
    · -- not wanted
      rename_i hwant
      have hw := wanted_ok hwant hf.tmps
      obtain ⟨tm', q1, q2⟩ := aput_ok h hf.tmps (undef_rv ρ)
      refine Goal.rebase ⟨fn, ntm, tm', .ops ops.toList rest :: k, ds, .run, kd, rnd⟩ rfl ?_
      exact Goal.same (frs' := fr.finish undef :: frs) (.one (step_unwanted hm htodo ho hw)) (aops_ok q1 (by rw [hfin]; exact ⟨hf.fn, q2, .cons hrest hk, hf.defers, hf.mode, hf.kind, hf.rnd⟩) hfs hK)
    · rename_i hwant
      have hw := wanted_ok hwant hf.tmps
      split at h
      · rename_i hcls
        exact acallop_ok hE hX hs hK h hcls hf hfs hw
      · rename_i hcls
        have hnd : ∀ c, o.op ≠ .defer c := by
          intro c e
          apply hcls
          rw [e]; rfl
        have hd : Doing E.P (lone fr (frs ++ cs) w) fr (frs ++ cs) (execOp fr.eval o) w := Doing.op hm htodo ho hw (.inr hnd)
        obtain ⟨a, H', n, v, ρ', w', g1, g2, g3, g4, g5⟩ := aop_ok hE hK.rel hf.eval hK.glo hK.le h o rfl
        have hf' := hf.mono g5.ext.le
        obtain ⟨tm', q1, q2⟩ := aput_ok g1 hf'.tmps g4
        have hst : step E.P (lone fr (frs ++ cs) w) = .next (lone (fr.finish v) (frs ++ cs) w') := by
          rcases g3 with rfl | ⟨rfl, rfl⟩
          · exact hd.value g2
          · exact hd.skip g2
        refine Goal.rebase ⟨fn, ntm, tm', .ops ops.toList rest :: k, ds, .run, kd, rnd⟩ rfl ?_
        exact Goal.of (frs' := fr.finish v :: frs) (.one hst) g5 (aops_ok q1 (by rw [hfin]; exact ⟨hf.fn, q2, .cons (hrest.mono g5.ext.le) (hk.mono g5.ext.le), hf'.defers, hf'.mode, hf'.kind, hf'.rnd⟩) (hfs.mono g5.ext.le) (hK.res g5))

end

end Go.Gx

namespace Go.Gx
open Go

/- The code of a frame. -/

section
variable {P : Program} {fr : Frame} {cs : List Frame} {w : World} {m : Machine}

/-- The machine `m` leaves the frame next, by `jump`. -/
structure Leaves (P : Program) (m : Machine) (fr : Frame) (cs : List Frame) (jump : Option Code) (w : World) : Prop where
  plain : fr.roundOf = none → (jump = none ∨ jump = some .ret) → step P m = .next (lone { fr with mode := .returning } cs w)
  round : ∀ l v w' fr' cs' w'', fr.roundOf = some l → (Instr.endRound l jump).run P w = .ok v w' → (doReturn P true fr cs none v w').bare = .go { frame := fr', callers := cs', status := .running, dying := none } w'' →
    step P m = .next (lone fr' cs' w'')

theorem leaves_end (hm : fr.mode = .run) (ht : fr.todo = []) : Leaves P (lone fr cs w) fr cs none w :=
  ⟨fun h _ => step_lone_go (by simp [stepG, hm, stepG.exec, ht, h]), fun l v w' fr' cs' w'' h hr hd => step_lone_go (by rw [← hd]; simp [stepG, hm, stepG.exec, ht, h, hr])⟩

theorem leaves_ret {k : List Item} (hm : fr.mode = .run) (ht : fr.todo = .code .ret :: k) : Leaves P (lone fr cs w) fr cs (some .ret) w :=
  ⟨fun h _ => step_lone_go (by simp [stepG, hm, stepG.exec, ht, h]), fun l v w' fr' cs' w'' h hr hd => step_lone_go (by rw [← hd]; simp [stepG, hm, stepG.exec, ht, h, hr])⟩

theorem leaves_exit {k : List Item} {id : Nat} (hm : fr.mode = .run) (ht : fr.todo = .code (.exit id) :: k) (he : exitTo id k = none) : Leaves P (lone fr cs w) fr cs (some (.exit id)) w :=
  ⟨fun _ hj => (by rcases hj with hj | hj <;> cases hj), fun l v w' fr' cs' w'' h hr hd => step_lone_go (by rw [← hd]; simp [stepG, hm, stepG.exec, ht, he, h, hr])⟩

theorem leaves_goto {k : List Item} {l : Nat} (hm : fr.mode = .run) (ht : fr.todo = .code (.goto l) :: k) (he : gotoIn l k = none) : Leaves P (lone fr cs w) fr cs (some (.goto l)) w :=
  ⟨fun _ hj => (by rcases hj with hj | hj <;> cases hj), fun l v w' fr' cs' w'' h hr hd => step_lone_go (by rw [← hd]; simp [stepG, hm, stepG.exec, ht, he, h, hr])⟩

end

theorem exitTo_ok {ρ : Ren} {id : Nat} : ∀ {k : List AIt} {k' : List Item}, RelIts ρ k k' → (∀ r, aexitTo id k = some r → ∃ r', exitTo id k' = some r' ∧ RelIts ρ r r') ∧ (aexitTo id k = none → exitTo id k' = none)
  | _, _, .nil => ⟨fun r h => (by cases h), fun _ => rfl⟩
  | _, _, .cons e r => by
    have ih := exitTo_ok (id := id) r
    cases e
    case inBlock j =>
      simp only [aexitTo, exitTo]
      cases hb : Nat.beq j id with
      | true =>
        have := Nat.eq_of_beq_eq_true hb
        subst this
        simp only [beq_self_eq_true, if_true]
        exact ⟨fun r' h => (by cases h; exact ⟨_, rfl, r⟩), fun h => (by cases h)⟩
      | false =>
        have hne : (j == id) = false := by
          rw [beq_eq_false_iff_ne]; exact Nat.ne_of_beq_eq_false hb
        simp only [hne, Bool.false_eq_true, if_false]
        exact ih
    all_goals (simp only [aexitTo, exitTo]; exact ih)

theorem gotoIn_ok {ρ : Ren} {l : Nat} : ∀ {k : List AIt} {k' : List Item}, RelIts ρ k k' → (∀ r, agotoIn l k = some r → ∃ r', gotoIn l k' = some r' ∧ RelIts ρ r r') ∧ (agotoIn l k = none → gotoIn l k' = none)
  | _, _, .nil => ⟨fun r h => (by cases h), fun _ => rfl⟩
  | _, _, .cons e r => by
    have ih := gotoIn_ok (l := l) r
    cases e
    case inScope body =>
      simp only [agotoIn, gotoIn]
      cases hb : findLabel body l with
      | some rest => exact ⟨fun r' h => (by cases h; exact ⟨_, rfl, .cons (.code _) (.cons (.inScope _) r)⟩), fun h => (by cases h)⟩
      | none => exact ih
    all_goals (simp only [agotoIn, gotoIn]; exact ih)

section
variable {E : Env} (hE : E.Ok) {B : Nat} (hX : Exts E B) {self : List AFr → St → Option Out} (hs : Good E B self) {ρ : Ren} {H : St} {w : World} (hK : Ok E B ρ H w) {cs : List Frame} {r : Out}
include hE hX hs hK

omit hE hX in
theorem aleave_ok {f : AFr} {fs : List AFr} {fr : Frame} {frs : List Frame} {jump : Option Code} (h : aleave self f fs jump H = some r) (hf : RelF ρ f fr) (hfs : RelS ρ fs frs) (hl : Leaves E.P (lone fr (frs ++ cs) w) fr (frs ++ cs) jump w) :
    Goal E B ρ H w (fr :: frs) cs (base (f :: fs)) r := by
  obtain ⟨fn, ntm, tm, todo, ds, md, kd, rnd⟩ := f
  unfold aleave at h
  have hrd := hf.rnd
  generalize hro : fr.roundOf = ro at hrd
  simp only at hrd h
  cases hrd with
  | none =>
    simp only at h
    refine Goal.rebase ⟨fn, ntm, tm, todo, ds, .ret, kd, none⟩ rfl ?_
    have use : (jump = none ∨ jump = some .ret) → self (⟨fn, ntm, tm, todo, ds, .ret, kd, none⟩ :: fs) H = some r → Goal E B ρ H w (fr :: frs) cs (base (⟨fn, ntm, tm, todo, ds, .ret, kd, none⟩ :: fs)) r := by
      intro hj h'
      exact Goal.same (frs' := { fr with mode := .returning } :: frs) (.one (hl.plain hro hj)) (hs _ _ _ h' ρ w _ cs (.cons ⟨hf.fn, hf.tmps, hf.todo, hf.defers, .ret, hf.kind, by rw [hro]; exact .none⟩ hfs) hK)
    split at h <;> first | cases h | skip
    · exact use (.inl rfl) h
    · exact use (.inr rfl) h
  | some hk =>
    rename_i l kl
    simp only at h
    split at h <;> first | cases h | skip
    rename_i fs' hne
    split at h <;> first | cases h | skip
    rename_i st pend lf t n ps as b d hb
    rw [Tr.setK_eq] at h
    obtain ⟨o, ho, hr⟩ := hK.rel.blk l _ kl hb hk
    generalize htot : kl.tot = tot at hr
    cases hr with
    | loop ht hd =>
      rename_i tmps params kd'
      have hgl : (getObj kl.b).run E.P w = .ok (.loop ⟨st, pend, lf, tmps, params, as, b, kd'.b⟩) w := getObj_other ho (by intros; simp)
      obtain ⟨st', hst'⟩ : ∃ st', st' = (match jump with | none => LoopState.ready | some _ => LoopState.done) := ⟨_, rfl⟩
      have hst2 : (if jump.isNone then LoopState.ready else LoopState.done) = st' := by rw [hst']; cases jump <;> rfl
      have hres := hK.rel.setBlk (A' := .loop st' jump lf t n params.toList as b d) (o := .loop ⟨st', jump, lf, tmps, params, as, b, kd'.b⟩) hk hb (by rw [htot]; exact .loop ht hd)
      have hrun : (Instr.endRound kl.b jump).run E.P w = .ok (.bool jump.isNone) { w with heap := w.heap.setIfInBounds kl.b (.loop ⟨st', jump, lf, tmps, params, as, b, kd'.b⟩) } := by
        simp only [Instr.endRound, Instr.getLoop, Sem.run_bind, hgl, Result.andThen_ok, Sem.run_pure, setObj_other ho (by intros; simp), hst2]
      have hK' := hK.res hres
      have h' : areturn self kd fs (.bool jump.isNone) ⟨H.blk.set l (some (.loop st' jump lf t n params.toList as b d)), H.nxt⟩ = some r := by
        rw [← h, hst']
        cases jump <;> rfl
      obtain ⟨c, cs', g1, g2⟩ := areturn_ok (cs := cs) (fr := fr) hs hK' h' hf.kind hfs (by intro e; subst e; exact hne rfl) (.bool _)
      have hstep := hl.round kl.b _ _ c (cs' ++ cs) _ hro hrun (by rw [g1]; rfl)
      have hb2 : base (⟨fn, ntm, tm, todo, ds, md, kd, some l⟩ :: fs) = base fs := by
        cases fs with
        | nil => exact absurd rfl hne
        | cons _ _ => rfl
      rw [hb2]
      exact Goal.of (frs' := c :: cs') (.one hstep) hres g2

end

end Go.Gx

namespace Go.Gx
open Go

/- A frame's end; the deferred calls; the whole machine. -/

section
variable {P : Program} {fr : Frame} {cs : List Frame} {w w' : World}

theorem Doing.rangeFunc {x : Operand} {ps : Array Tmp} {a b : Code} {k : List Item} {l : Nat} {mark : List Deferred} (hm : fr.mode = .run) (ht : fr.todo = .code (.rangeFunc x ps a b) :: k)
    (hr : (Instr.enterLoop fr.fn fr.tmps ps a b fr.roundOf).run P w = .ok (l, mark) w') :
    Doing P (lone fr cs w) { fr with todo := .inRangeFunc l :: k, defers := mark ++ fr.defers } cs
      (do let d ← Deferred.ofValue (fr.eval x) #[.func (.yield l) #[] #[]]; invoke d.target d.args) w' := by
  intro fr' cs' w'' h
  refine step_lone_go ?_
  rw [← h]
  have he : ({ fr with todo := .inRangeFunc l :: k, defers := mark ++ fr.defers, mode := .run } : Frame).eval = fr.eval := rfl
  have hmap : Array.map fr.eval #[Operand.const (.func (.yield l) #[] #[])] = #[.func (.yield l) #[] #[]] := by simp [Frame.eval]
  simp only [stepG, hm, stepG.exec, ht, Sem.runT_eq, hr, GStep.bare_after, resolve, he, hmap]

theorem step_beginRound {k : List Item} (hm : fr.mode = .run) (ht : fr.todo = .beginRound :: k) {l : Nat} (hl : fr.roundOf = some l) (hr : (Instr.beginRound l).run P w = .ok () w') :
    step P (lone fr cs w) = .next (lone { fr with todo := k } cs w') := by
  refine step_lone_go ?_
  simp [stepG, hm, stepG.exec, ht, hl, stepG.apply, Sem.runT_eq, hr, Frame.finish]

theorem step_endRF {k : List Item} {l : Nat} {jump : Option Code} (hm : fr.mode = .run) (ht : fr.todo = .endRangeFunc l :: k) (hr : (Instr.endLoop l).run P w = .ok jump w') :
    step P (lone fr cs w) = .next (lone { fr with todo := (jump.map Item.code).toList ++ k } cs w') := by
  refine step_lone_go ?_
  simp [stepG, hm, stepG.exec, ht, Sem.runT_eq, hr]

end

section
variable {E : Env} (hE : E.Ok) {B : Nat} (hX : Exts E B) {self : List AFr → St → Option Out} (hs : Good E B self) {ρ : Ren} {H : St} {w : World} (hK : Ok E B ρ H w) {cs : List Frame} {r : Out}
include hE hX hs hK

/-- What is asked of a region whose order is drawn. -/
def DrawOk (E : Env) (B : Nat) (self : List AFr → St → Option Out) : Prop :=
  ∀ {fn : FuncId} {ntm : Nat} {tm : Tr AV} {ds : List ADf} {kd : CallKind} {rnd : Option Nat} {fs : List AFr} {id : Nat} {ops : Array Oper} {k : List AIt} {H : St} {r : Out} {ρ : Ren} {w : World} {fr : Frame} {frs cs : List Frame},
    adraw E self fn ntm tm ds .run kd rnd fs ops k H = some r → RelF ρ ⟨fn, ntm, tm, .code (.region id ops true) :: k, ds, .run, kd, rnd⟩ fr → RelS ρ fs frs → Ok E B ρ H w →
    Goal E B ρ H w (fr :: frs) cs (base (⟨fn, ntm, tm, .code (.region id ops true) :: k, ds, .run, kd, rnd⟩ :: fs)) r

omit hE hX hs hK in
theorem range_map_get (ops : Array Oper) : ops.toList.map some = (List.range ops.size).map (fun i => ops[i]?) := by
  apply List.ext_getElem?
  intro i
  by_cases h : i < ops.size
  · simp [h]
  · simp [h]

theorem acode_ok (hD : DrawOk E B self) {fn : FuncId} {ntm : Nat} {tm : Tr AV} {ds : List ADf} {kd : CallKind} {rnd : Option Nat} {fs : List AFr} {c : Code} {k : List AIt} {fr : Frame} {frs : List Frame}
    (h : acode E self fn ntm tm ds .run kd rnd fs c k H = some r) (hf : RelF ρ ⟨fn, ntm, tm, .code c :: k, ds, .run, kd, rnd⟩ fr) (hfs : RelS ρ fs frs) :
    Goal E B ρ H w (fr :: frs) cs (base (⟨fn, ntm, tm, .code c :: k, ds, .run, kd, rnd⟩ :: fs)) r := by
  have hm : fr.mode = .run := by
    have := hf.mode
    generalize fr.mode = md at this
    cases this; rfl
  obtain ⟨k', htd, hk⟩ : ∃ k', fr.todo = .code c :: k' ∧ RelIts ρ k k' := by
    have := hf.todo
    generalize fr.todo = td at this
    cases this with
    | cons e hk => cases e; exact ⟨_, rfl, hk⟩
  -- a step that changes what is to do, alone
  have go : ∀ {td : List AIt} {td' : List Item}, self (⟨fn, ntm, tm, td, ds, .run, kd, rnd⟩ :: fs) H = some r → step E.P (lone fr (frs ++ cs) w) = .next (lone { fr with todo := td' } (frs ++ cs) w) → RelIts ρ td td' →
      Goal E B ρ H w (fr :: frs) cs (base (⟨fn, ntm, tm, .code c :: k, ds, .run, kd, rnd⟩ :: fs)) r := by
    intro td td' h' hst hr
    refine Goal.rebase ⟨fn, ntm, tm, td, ds, .run, kd, rnd⟩ rfl ?_
    exact Goal.same (frs' := { fr with todo := td' } :: frs) (.one hst) (hs _ _ _ h' ρ w _ cs (.cons ⟨hf.fn, hf.tmps, hr, hf.defers, hf.mode, hf.kind, hf.rnd⟩ hfs) hK)
  unfold acode at h
  split at h <;> first | cases h | skip
  · exact go h (step_lone_go (by simp [stepG, hm, stepG.exec, htd])) hk
  · exact go h (step_lone_go (by simp [stepG, hm, stepG.exec, htd])) hk
  · exact go h (step_lone_go (by simp [stepG, hm, stepG.exec, htd])) (.cons (.code _) (.cons (.code _) hk))
  · rename_i x a b
    split at h <;> first | cases h | skip
    · rename_i hx
      have hv := hf.eval _ _ hx
      generalize hvv : fr.eval x = vv at hv
      cases hv
      exact go h (step_lone_go (by simp [stepG, hm, stepG.exec, htd, hvv])) (.cons (.code _) hk)
    · rename_i hx
      have hv := hf.eval _ _ hx
      generalize hvv : fr.eval x = vv at hv
      cases hv
      exact go h (step_lone_go (by simp [stepG, hm, stepG.exec, htd, hvv])) (.cons (.code _) hk)
  · exact go h (step_lone_go (by simp [stepG, hm, stepG.exec, htd])) (.cons (.code _) (.cons (.inBlock _) hk))
  · exact go h (step_lone_go (by simp [stepG, hm, stepG.exec, htd])) (.cons (.code _) (.cons (.inLoop _) hk))
  · exact go h (step_lone_go (by simp [stepG, hm, stepG.exec, htd])) (.cons (.code _) (.cons (.inScope _) hk))
  · rename_i id
    split at h
    · rename_i r' he
      obtain ⟨t', h1, h2⟩ := (exitTo_ok hk).1 _ he
      exact go h (step_lone_go (by simp [stepG, hm, stepG.exec, htd, h1])) h2
    · rename_i he
      exact aleave_ok hs hK h hf hfs (leaves_exit hm htd ((exitTo_ok hk).2 he))
  · rename_i l
    split at h
    · rename_i r' he
      obtain ⟨t', h1, h2⟩ := (gotoIn_ok hk).1 _ he
      exact go h (step_lone_go (by simp [stepG, hm, stepG.exec, htd, h1])) h2
    · rename_i he
      exact aleave_ok hs hK h hf hfs (leaves_goto hm htd ((gotoIn_ok hk).2 he))
  · exact aleave_ok hs hK h hf hfs (leaves_ret hm htd)
  · -- a range over a function
    rename_i x ps a b
    split at h
    · cases h
    rename_i v hx
    have hv := hf.eval _ _ hx
    have hrd := hf.rnd
    generalize hro : fr.roundOf = ro at hrd
    simp only at hrd
    have hps : ps = ps.toList.toArray := by simp
    cases hrd with
    | some hkr =>
      rename_i rd kr
      simp only at h
      split at h <;> first | cases h | skip
      rename_i st pend lf t n ps' as' b' d hb
      obtain ⟨o, ho, hr⟩ := hK.rel.blk rd _ kr hb hkr
      generalize kr.tot = tot at hr
      cases hr with
      | loop ht hd =>
        rename_i tmps params kd'
        have hgl := getObj_other (P := E.P) ho (by intros; simp)
        have hrb : RelB ρ (.loop .ready none fn tm ntm ps.toList a b d) 0 (.loop ⟨.ready, none, fn, fr.tmps, ps, a, b, kd'.b⟩) := .loop hf.tmps hd
        obtain ⟨H', ρ', id, g1, g2, g3, g4⟩ := newBlk_ok hK.rel h hK.le hrb
        have hrun : (Instr.enterLoop fr.fn fr.tmps ps a b fr.roundOf).run E.P w = .ok (w.heap.size, []) { w with heap := w.heap.push (.loop ⟨.ready, none, fn, fr.tmps, ps, a, b, kd'.b⟩) } := by
          rw [hro]
          simp only [Instr.enterLoop, Instr.getLoop, Sem.run_bind, hgl, Result.andThen_ok, Sem.run_pure, run_newObj, hf.fn]
        have hd' := Doing.rangeFunc (cs := frs ++ cs) hm htd hrun
        have hf' := hf.mono g3
        have := ainvoke_ok (cs := cs) hE hX hs (hK.res g4) g1 (fr := { fr with todo := .inRangeFunc w.heap.size :: k', defers := [] ++ fr.defers }) ⟨hf.fn, hf'.tmps, .cons (.inRF (k := ⟨w.heap.size, 0⟩) g2) (hk.mono g3), hf'.defers, hf'.mode, hf.kind, hf'.rnd⟩ (hfs.mono g3) (hv.mono g3)
          (argv := #[.func (.yield w.heap.size) #[] #[]]) (.cons (.yield (k := ⟨w.heap.size, 0⟩) g2) .nil) hd' rfl (fun _ => rfl)
        obtain ⟨ρ'', w'', fr'', v'', q1, q2, q3, q4, q5⟩ := this
        refine ⟨ρ'', w'', fr'', v'', q1, q2, q3.trans ?_, q4, g4.trans q5⟩
        exact base_cons _ _ _ rfl
    | none =>
      simp only at h
      obtain ⟨H1, ρ1, d, p1, p2, p3, p4⟩ := newBlk_ok hK.rel h hK.le (.deferred (ρ := ρ))
      have hf1 := hf.mono p3
      have hK1 := hK.res p4
      have hrb : RelB ρ1 (.loop .ready none fn tm ntm ps.toList a b d) 0 (.loop ⟨.ready, none, fn, fr.tmps, ps, a, b, w.heap.size⟩) := .loop (k := ⟨w.heap.size, 0⟩) hf1.tmps p2
      obtain ⟨H', ρ', id, g1, g2, g3, g4⟩ := newBlk_ok hK1.rel p1 hK1.le hrb
      have hsz : ({ w with heap := w.heap.push (.deferred (some [])) } : World).heap.size = w.heap.size + 1 := by simp
      rw [hsz] at g2
      have hrun : (Instr.enterLoop fr.fn fr.tmps ps a b fr.roundOf).run E.P w = .ok (w.heap.size + 1, [{ target := .collected w.heap.size, args := #[] }])
          { w with heap := (w.heap.push (.deferred (some []))).push (.loop ⟨.ready, none, fn, fr.tmps, ps, a, b, w.heap.size⟩) } := by
        rw [hro]
        simp only [Instr.enterLoop, Sem.run_bind, Result.andThen_ok, Sem.run_pure, run_newObj, hf.fn, hsz]
      have hd' := Doing.rangeFunc (cs := frs ++ cs) hm htd hrun
      have hf' := hf1.mono g3
      have := ainvoke_ok (cs := cs) hE hX hs (hK1.res g4) g1 (fr := { fr with todo := .inRangeFunc (w.heap.size + 1) :: k', defers := [{ target := .collected w.heap.size, args := #[] }] ++ fr.defers })
        ⟨hf.fn, hf'.tmps, .cons (.inRF (k := ⟨w.heap.size + 1, 0⟩) g2) ((hk.mono p3).mono g3), .cons (.collected (k := ⟨w.heap.size, 0⟩) (g3 _ _ p2)) hf'.defers, hf'.mode, hf.kind, by show RelRd ρ' none fr.roundOf; rw [hro]; exact .none⟩ ((hfs.mono p3).mono g3) ((hv.mono p3).mono g3)
        (argv := #[.func (.yield (w.heap.size + 1)) #[] #[]]) (.cons (.yield (k := ⟨w.heap.size + 1, 0⟩) g2) .nil) hd' rfl (fun _ => rfl)
      obtain ⟨ρ'', w'', fr'', v'', q1, q2, q3, q4, q5⟩ := this
      refine ⟨ρ'', w'', fr'', v'', q1, q2, q3.trans ?_, q4, p4.trans (g4.trans q5)⟩
      exact base_cons _ _ _ rfl
  · -- a region
    rename_i id ops dr
    split at h
    · refine Goal.rebase ⟨fn, ntm, tm, .ops ops.toList ops.toList :: k, ds, .run, kd, rnd⟩ rfl ?_
      exact Goal.same (frs' := { fr with todo := .inRegion ops (List.range ops.size) :: k' } :: frs) (.one (step_lone_go (by simp [stepG, hm, stepG.exec, htd])))
        (aops_ok hE hX hs h ⟨hf.fn, hf.tmps, .cons (.ops (range_map_get ops)) hk, hf.defers, hf.mode, hf.kind, hf.rnd⟩ hfs hK)
    · exact hD h hf hfs hK

end

end Go.Gx

namespace Go.Gx
open Go

/- The whole machine. -/

/-- A result variable is read. -/
def readResult (vs : Array Value) : ResultVar → Sem Value
  | .tmp t => pure (vs.getD t undef)
  | .cell a t => do loadVar t (← asAddr (vs.getD a undef))

theorem results_read_eq (fn : Func) (vs : Array Value) : results fn vs = (do
    let us ← fn.results.mapM (readResult vs)
    pure (if h : us.size = 1 then us[0] else .tuple us)) := by
  unfold results
  congr 1

theorem aload_addr {E : Env} {H : St} {t : TypeId} {a v : AV} (h : aload E H t a = some v) : (∃ i o, a = .ptr i o) ∨ (∃ g o, a = .gptr g o) := by
  unfold aload at h
  split at h <;> first | cases h | skip
  · split at h <;> first | cases h | skip
    split at h <;> first | cases h | skip
    · exact .inl ⟨_, _, rfl⟩
    · exact .inr ⟨_, _, rfl⟩
  · split at h <;> first | cases h | skip
    · exact .inl ⟨_, _, rfl⟩
    · exact .inr ⟨_, _, rfl⟩

section
variable {E : Env} (hE : E.Ok) {B : Nat} {ρ : Ren} {H : St} {w : World} (hK : Ok E B ρ H w)
include hE hK

theorem aresults_ok {tm : Tr AV} {n : Nat} {vs : Array Value} (ht : RvT ρ tm n vs) : ∀ {rs : List ResultVar} {l : List AV}, aresults E H tm rs = some l →
    ∃ us : List Value, RvL ρ l us ∧ (rs.mapM (readResult vs)).run E.P w = .ok us w
  | [], l, h => by simp only [aresults, Option.some.injEq] at h; subst h; exact ⟨[], .nil, by simp⟩
  | .tmp t :: rs, l, h => by
    simp only [aresults] at h
    split at h <;> first | cases h | skip
    rename_i a ha
    split at h <;> first | cases h | skip
    rename_i l' hl
    obtain ⟨us, h1, h2⟩ := aresults_ok ht hl
    obtain ⟨_, v, hv, hr⟩ := ht.2 t a ha
    refine ⟨v :: us, .cons hr h1, ?_⟩
    have hg : vs.getD t undef = v := by rw [Array.getD_eq_getD_getElem?, hv]; rfl
    simp only [List.mapM_cons, readResult, Sem.run_bind, Sem.run_pure, Result.andThen_ok, h2, hg]
  | .cell p t :: rs, l, h => by
    simp only [aresults] at h
    split at h <;> first | cases h | skip
    rename_i a ha
    split at h <;> first | cases h | skip
    rename_i v hv
    split at h <;> first | cases h | skip
    rename_i l' hl
    obtain ⟨us, h1, h2⟩ := aresults_ok ht hl
    obtain ⟨_, pv, hpv, hpr⟩ := ht.2 p a ha
    obtain ⟨vv, h3, h4⟩ := load_ok hE hK.rel hK.glo hv hpr
    have hg : vs.getD p undef = pv := by rw [Array.getD_eq_getD_getElem?, hpv]; rfl
    refine ⟨vv :: us, .cons h4 h1, ?_⟩
    have hload : (readResult vs (.cell p t)).run E.P w = .ok vv w := by
      simp only [readResult, hg]
      unfold Instr.loadAt at h3
      rcases aload_addr hv with ⟨i, o, rfl⟩ | ⟨g, o, rfl⟩
      · cases hpr
        simp only [Instr.sureAddr, asAddr, Sem.run_bind, Sem.run_pure, Result.andThen_ok] at h3 ⊢
        exact h3
      · cases hpr
        simp only [Instr.sureAddr, asAddr, Sem.run_bind, Sem.run_pure, Result.andThen_ok] at h3 ⊢
        exact h3
    simp only [List.mapM_cons, Sem.run_bind, hload, Result.andThen_ok, h2, Sem.run_pure]

theorem aresult_ok {fn : Func} {tm : Tr AV} {n : Nat} {vs : Array Value} {a : AV} (ht : RvT ρ tm n vs) (h : aresult E H fn tm = some a) : ∃ v, (results fn vs).run E.P w = .ok v w ∧ Rv ρ a v := by
  unfold aresult at h
  split at h
  · cases h
  · rename_i v hr
    cases h
    obtain ⟨us, h1, h2⟩ := aresults_ok hE hK ht hr
    cases h1 with
    | cons e r =>
      cases r
      refine ⟨_, ?_, e⟩
      rw [results_read_eq]
      simp only [Array.mapM_eq_mapM_toList, map_eq_pure_bind, Sem.run_bind, h2, Result.andThen_ok, Sem.run_pure]
      rfl
  · rename_i l hne hr
    cases h
    obtain ⟨us, h1, h2⟩ := aresults_ok hE hK ht hr
    have hlen := h1.length
    refine ⟨.tuple us.toArray, ?_, .tup (by simpa using h1)⟩
    have : ¬ us.toArray.size = 1 := by
      intro hc
      simp only [List.size_toArray] at hc
      rw [← hlen] at hc
      obtain ⟨x, hx⟩ := List.length_eq_one_iff.1 hc
      exact hne x hx
    rw [results_read_eq]
    simp only [Array.mapM_eq_mapM_toList, map_eq_pure_bind, Sem.run_bind, h2, Result.andThen_ok, Sem.run_pure, dif_neg this]

end

section
variable {E : Env} (hE : E.Ok) {B : Nat} (hX : Exts E B) {self : List AFr → St → Option Out} (hs : Good E B self) {ρ : Ren} {H : St} {w : World} (hK : Ok E B ρ H w) {cs : List Frame} {r : Out}
include hE hX hs hK

theorem arunF_ok (hD : DrawOk E B self) {fn : FuncId} {ntm : Nat} {tm : Tr AV} {todo : List AIt} {ds : List ADf} {kd : CallKind} {rnd : Option Nat} {fs : List AFr} {fr : Frame} {frs : List Frame}
    (h : arunF E self fn ntm tm todo ds .run kd rnd fs H = some r) (hf : RelF ρ ⟨fn, ntm, tm, todo, ds, .run, kd, rnd⟩ fr) (hfs : RelS ρ fs frs) :
    Goal E B ρ H w (fr :: frs) cs (base (⟨fn, ntm, tm, todo, ds, .run, kd, rnd⟩ :: fs)) r := by
  have hm : fr.mode = .run := by
    have := hf.mode
    generalize fr.mode = md at this
    cases this; rfl
  unfold arunF at h
  have ht := hf.todo
  generalize htd : fr.todo = td at ht
  simp only at ht
  cases ht with
  | nil => exact aleave_ok hs hK h hf hfs (leaves_end hm htd)
  | cons e hk =>
    rename_i it i k k'
    have go : ∀ {td : List AIt} {td' : List Item}, self (⟨fn, ntm, tm, td, ds, .run, kd, rnd⟩ :: fs) H = some r → step E.P (lone fr (frs ++ cs) w) = .next (lone { fr with todo := td' } (frs ++ cs) w) → RelIts ρ td td' →
        Goal E B ρ H w (fr :: frs) cs (base (⟨fn, ntm, tm, it :: k, ds, .run, kd, rnd⟩ :: fs)) r := by
      intro td td' h' hst hr
      refine Goal.rebase ⟨fn, ntm, tm, td, ds, .run, kd, rnd⟩ rfl ?_
      exact Goal.same (frs' := { fr with todo := td' } :: frs) (.one hst) (hs _ _ _ h' ρ w _ cs (.cons ⟨hf.fn, hf.tmps, hr, hf.defers, hf.mode, hf.kind, hf.rnd⟩ hfs) hK)
    simp only at h
    cases e with
    | code c => exact acode_ok hE hX hs hK hD h hf hfs
    | inBlock id => exact go h (step_lone_go (by simp [stepG, hm, stepG.exec, htd])) hk
    | inScope c => exact go h (step_lone_go (by simp [stepG, hm, stepG.exec, htd])) hk
    | inLoop c => exact go h (step_lone_go (by simp [stepG, hm, stepG.exec, htd])) (.cons (.code _) (.cons (.inLoop _) hk))
    | ops e => exact aops_ok hE hX hs h hf hfs hK
    | inRF _ => cases h
    | endRF hl =>
      rename_i l kl
      simp only at h
      split at h <;> first | cases h | skip
      rename_i st pend lf t n ps as b d hb
      obtain ⟨o, ho, hr⟩ := hK.rel.blk l _ kl hb hl
      generalize htot : kl.tot = tot at hr
      cases hr with
      | loop ht hd =>
        rename_i tmps params kd'
        have hgl := getObj_other (P := E.P) ho (by intros; simp)
        have hres := hK.rel.setBlk (A' := .loop .exhausted pend lf t n params.toList as b d) (o := .loop ⟨.exhausted, pend, lf, tmps, params, as, b, kd'.b⟩) hl hb (by rw [htot]; exact .loop ht hd)
        have fin : (st == .busy) = false → ∀ p, pend = p → (match p with
            | none => self (⟨fn, ntm, tm, k, ds, .run, kd, rnd⟩ :: fs) ⟨H.blk.set l (some (.loop .exhausted pend lf t n params.toList as b d)), H.nxt⟩
            | some c => self (⟨fn, ntm, tm, .code c :: k, ds, .run, kd, rnd⟩ :: fs) ⟨H.blk.set l (some (.loop .exhausted pend lf t n params.toList as b d)), H.nxt⟩) = some r →
            Goal E B ρ H w (fr :: frs) cs (base (⟨fn, ntm, tm, .endRF l :: k, ds, .run, kd, rnd⟩ :: fs)) r := by
          intro hst p hp h'
          have hrun : (Instr.endLoop kl.b).run E.P w = .ok pend { w with heap := w.heap.setIfInBounds kl.b (.loop ⟨.exhausted, pend, lf, tmps, params, as, b, kd'.b⟩) } := by
            simp only [Instr.endLoop, Instr.getLoop, Sem.run_bind, hgl, Result.andThen_ok, Sem.run_pure, hst, Bool.false_eq_true, if_false, setObj_other ho (by intros; simp)]
          have hst := step_endRF (cs := frs ++ cs) hm htd hrun
          have hK' := hK.res hres
          cases p with
          | none =>
            subst hp
            refine Goal.rebase ⟨fn, ntm, tm, k, ds, .run, kd, rnd⟩ rfl ?_
            exact Goal.of (frs' := { fr with todo := k' } :: frs) (.one hst) hres (hs _ _ _ h' ρ _ _ cs (.cons ⟨hf.fn, hf.tmps, hk, hf.defers, hf.mode, hf.kind, hf.rnd⟩ hfs) hK')
          | some c =>
            subst hp
            refine Goal.rebase ⟨fn, ntm, tm, .code c :: k, ds, .run, kd, rnd⟩ rfl ?_
            exact Goal.of (frs' := { fr with todo := .code c :: k' } :: frs) (.one hst) hres (hs _ _ _ h' ρ _ _ cs (.cons ⟨hf.fn, hf.tmps, .cons (.code _) hk, hf.defers, hf.mode, hf.kind, hf.rnd⟩ hfs) hK')
        cases st with
        | busy => cases h
        | ready => exact fin rfl pend rfl (by simp only [Tr.setK_eq] at h; cases pend <;> exact h)
        | done => exact fin rfl pend rfl (by simp only [Tr.setK_eq] at h; cases pend <;> exact h)
        | exhausted => exact fin rfl pend rfl (by simp only [Tr.setK_eq] at h; cases pend <;> exact h)
    | beginRound =>
      simp only at h
      have hrd := hf.rnd
      generalize hro : fr.roundOf = ro at hrd
      simp only at hrd
      cases hrd with
      | none => cases h
      | some hl =>
        rename_i l kl
        simp only at h
        split at h <;> first | cases h | skip
        rename_i pend lf t n ps as b d hb
        rw [Tr.setK_eq] at h
        obtain ⟨o, ho, hr⟩ := hK.rel.blk l _ kl hb hl
        generalize htot : kl.tot = tot at hr
        cases hr with
        | loop ht hd =>
          rename_i tmps params kd'
          have hgl := getObj_other (P := E.P) ho (by intros; simp)
          have hres := hK.rel.setBlk (A' := .loop .busy pend lf t n params.toList as b d) (o := .loop ⟨.busy, pend, lf, tmps, params, as, b, kd'.b⟩) hl hb (by rw [htot]; exact .loop ht hd)
          have hrun : (Instr.beginRound kl.b).run E.P w = .ok () { w with heap := w.heap.setIfInBounds kl.b (.loop ⟨.busy, pend, lf, tmps, params, as, b, kd'.b⟩) } := by
            simp only [Instr.beginRound, Instr.getLoop, Sem.run_bind, hgl, Result.andThen_ok, Sem.run_pure, setObj_other ho (by intros; simp)]
          have hst := step_beginRound (cs := frs ++ cs) hm htd hro hrun
          refine Goal.rebase ⟨fn, ntm, tm, k, ds, .run, kd, some l⟩ rfl ?_
          exact Goal.of (frs' := { fr with todo := k' } :: frs) (.one hst) hres (hs _ _ _ h ρ _ _ cs (.cons ⟨hf.fn, hf.tmps, hk, hf.defers, hf.mode, hf.kind, by show RelRd ρ (some l) fr.roundOf; rw [hro]; exact .some hl⟩ hfs) (hK.res hres))

end

end Go.Gx

namespace Go.Gx
open Go

/- Unwinding; the machine, whole. -/

section
variable {E : Env} (hE : E.Ok) {B : Nat} (hX : Exts E B) {self : List AFr → St → Option Out} (hs : Good E B self) {ρ : Ren} {H : St} {w : World} (hK : Ok E B ρ H w) {cs : List Frame} {r : Out}
include hE hX hs hK

theorem aunwind_ok {fn : FuncId} {ntm : Nat} {tm : Tr AV} {todo : List AIt} {ds : List ADf} {md : AMode} {kd : CallKind} {rnd : Option Nat} {fs : List AFr} {fr : Frame} {frs : List Frame} (hmd : md ≠ .run)
    (h : aunwind E self fn ntm tm todo ds md kd rnd fs H = some r) (hf : RelF ρ ⟨fn, ntm, tm, todo, ds, md, kd, rnd⟩ fr) (hfs : RelS ρ fs frs) :
    Goal E B ρ H w (fr :: frs) cs (base (⟨fn, ntm, tm, todo, ds, md, kd, rnd⟩ :: fs)) r := by
  have hm : fr.mode ≠ .run := by
    have := hf.mode
    intro hc
    rw [hc] at this
    simp only at this
    cases this
    exact hmd rfl
  have hun : ∀ w : World, (stepG E.P true { frame := fr, callers := frs ++ cs, status := .running, dying := none } w) = unwind E.P true fr (frs ++ cs) none w := by
    intro w
    unfold stepG
    simp only
  unfold aunwind at h
  have hds := hf.defers
  generalize hfd : fr.defers = fd at hds
  simp only at hds
  cases hds with
  | nil =>
    simp only at h
    have hmr := hf.mode
    generalize hfm : fr.mode = fm at hmr
    simp only at hmr
    cases hmr with
    | run => exact absurd rfl hmd
    | pan hc =>
      simp only at h
      cases hfs with
      | nil => cases h
      | cons hcf hfs =>
        rename_i chain ch a c l cs'
        simp only at h
        have hcat : fr.catches E.P = false := by
          unfold Frame.catches
          split
          · rename_i heq; exact absurd heq (hf.todo.nocall _ _ _ _ _)
          · rfl
        have hst : step E.P (lone fr ((c :: cs') ++ cs) w) = .next (lone (c.raise ch) (cs' ++ cs) w) := by
          refine step_lone_go ?_
          rw [hun]
          simp [unwind, hfd, hfm, hcat]
        have := araise_ok (cs := cs) hs hK h hcf hfs hc
        exact Goal.same (frs' := c.raise ch :: cs') (.one hst) this
    | ret =>
      simp only at h
      split at h <;> first | cases h | skip
      rename_i f hfn
      obtain ⟨h1, h2, h3⟩ := hE.fun' _ _ hfn
      split at h <;> first | cases h | skip
      rename_i v hv
      obtain ⟨vv, g1, g2⟩ := aresult_ok hE hK hf.tmps hv
      have hfn' : E.P.funcs[fr.fn]? = some f := by rw [hf.fn]; exact h1
      cases hfs with
      | nil =>
        unfold areturn at h
        simp only at h
        split at h <;> first | cases h | skip
        refine ⟨ρ, w, fr, vv, .refl _ _, ⟨hfm, hfd, hf.kind, f, hfn', g1⟩, hf.fn, g2, .refl hK.rel⟩
      | cons hcf hfs =>
        rename_i a c l cs'
        obtain ⟨c', cs'', q1, q2⟩ := areturn_ok (cs := cs) (fr := fr) hs hK h hf.kind (.cons hcf hfs) (by simp) g2
        have hst : step E.P (lone fr ((c :: cs') ++ cs) w) = .next (lone c' (cs'' ++ cs) w) := by
          refine step_lone_go ?_
          rw [hun]
          simp only [unwind, hfd, hfm, hfn', Sem.runT_eq, g1, GStep.bare_after, q1]
          rfl
        exact Goal.same (frs' := c' :: cs'') (.one hst) q2
  | cons hd hds =>
    rename_i a d ds' fds
    cases hd with
    | collected hb =>
      rename_i b kb
      simp only at h
      split at h <;> first | cases h | skip
      rename_i hblk
      rw [Tr.setK_eq] at h
      obtain ⟨o, ho, hr⟩ := hK.rel.blk b _ kb hblk hb
      generalize htot : kb.tot = tot at hr
      cases hr with
      | deferred =>
        have hg := getObj_other (P := E.P) ho (by intros; simp)
        have hres := hK.rel.setBlk (A' := .deferred false) (o := .deferred none) hb hblk (by rw [htot]; exact .taken)
        have hrun : (Instr.takeDeferred kb.b).run E.P w = .ok [] { w with heap := w.heap.setIfInBounds kb.b (.deferred none) } := by
          simp only [Instr.takeDeferred, Sem.run_bind, hg, Result.andThen_ok, Sem.run_pure, setObj_other ho (by intros; simp)]
        have hst : step E.P (lone fr (frs ++ cs) w) = .next (lone { fr with defers := fds } (frs ++ cs) { w with heap := w.heap.setIfInBounds kb.b (.deferred none) }) := by
          refine step_lone_go ?_
          rw [hun]
          simp [unwind, hfd, Sem.runT_eq, hrun]
        refine Goal.rebase ⟨fn, ntm, tm, todo, ds', md, kd, rnd⟩ rfl ?_
        exact Goal.of (frs' := { fr with defers := fds } :: frs) (.one hst) hres (hs _ _ _ h ρ _ _ cs (.cons ⟨hf.fn, hf.tmps, hf.todo, hds, hf.mode, hf.kind, hf.rnd⟩ hfs) (hK.res hres))
    | call h1 h2 =>
      rename_i g args cap av cv
      simp only at h
      split at h <;> first | cases h | skip
      obtain ⟨c', q1, q2, q3⟩ := aenter_ok hE (kind := .deferred) h (argv := av ++ cv) (by simpa using h1.append h2)
      have hst : step E.P (lone fr (frs ++ cs) w) = .next (lone (Frame.enter E.P g (av ++ cv) .deferred) ({ fr with defers := fds } :: frs ++ cs) w) := by
        refine step_lone_go ?_
        rw [hun]
        simp [unwind, hfd, callDeferred, invoke, Sem.runT_eq, q3 w]
      have hb : base (⟨fn, ntm, tm, todo, .call g args cap :: ds', md, kd, rnd⟩ :: fs) = base (c' :: ⟨fn, ntm, tm, todo, ds', md, kd, rnd⟩ :: fs) := by
        show _ = base (⟨fn, ntm, tm, todo, ds', md, kd, rnd⟩ :: fs)
        exact base_cons _ _ _ rfl
      rw [hb]
      exact Goal.same (frs' := Frame.enter E.P g (av ++ cv) .deferred :: { fr with defers := fds } :: frs) (.one hst)
        (hs _ _ _ q1 ρ w _ cs (.cons q2 (.cons ⟨hf.fn, hf.tmps, hf.todo, hds, hf.mode, hf.kind, hf.rnd⟩ hfs)) hK)

theorem astep_ok (hD : DrawOk E B self) {fs : List AFr} {frs : List Frame} (h : astep E self fs H = some r) (hfs : RelS ρ fs frs) : Goal E B ρ H w frs cs (base fs) r := by
  unfold astep at h
  cases hfs with
  | nil => cases h
  | cons hf hfs =>
    rename_i a f l fs'
    obtain ⟨fn, ntm, tm, todo, ds, md, kd, rnd⟩ := a
    simp only at h
    cases md with
    | run => exact arunF_ok hE hX hs hK hD h hf hfs
    | ret => exact aunwind_ok hE hX hs hK (by simp) h hf hfs
    | pan c => exact aunwind_ok hE hX hs hK (by simp) h hf hfs

end

theorem arun_good {E : Env} (hE : E.Ok) {B : Nat} (hX : Exts E B) (hD : ∀ self, Good E B self → DrawOk E B self) : ∀ n, Good E B (arun E n)
  | 0 => fun fs H r h => by cases h
  | n + 1 => fun fs H r h ρ w frs cs hfs hK => astep_ok hE hX (arun_good hE hX hD n) hK (hD _ (arun_good hE hX hD n)) h hfs

/-- A call, from nothing. -/
theorem acall_ends {E : Env} (hE : E.Ok) {B : Nat} (hX : Exts E B) (hD : ∀ self, Good E B self → DrawOk E B self) {n : Nat} {f : FuncId} {args : List AV} {v : AV} {H' : St} (h : acall E n f args ⟨.nil, 0⟩ = some (v, H'))
    {w : World} (hG : Globs E B w) (hB : B ≤ w.heap.size) {argv : Array Value} (ha : RvL (fun _ => none) args argv.toList) (cs : List Frame) :
    ∃ vv w' fr ρ', (callFunc f argv).run E.P w = .ok (.enter f argv) w ∧ Steps E.P (lone (Frame.enter E.P f argv .normal) cs w) (lone fr cs w') ∧ fr.leaving E.P w' (.returned vv) ∧ fr.fn = f ∧ Rv ρ' v vv ∧ Fr (fun _ => none) ⟨.nil, 0⟩ w w' := by
  unfold acall at h
  obtain ⟨c, h1, h2, h3⟩ := aenter_ok hE (kind := .normal) h ha
  have hK : Ok E B (fun _ => none) ⟨.nil, 0⟩ w := ⟨⟨fun _ _ h => (by cases h), fun _ _ h => (by cases h), fun _ _ h => (by cases h), fun _ _ _ _ h => (by cases h), fun i h => (by simp at h), fun i A k h => (by simp at h)⟩, hG, hB⟩
  obtain ⟨ρ', w', fr, vv, g1, g2, g3, g4, g5⟩ := arun_good hE hX hD n _ _ _ h1 _ w [Frame.enter E.P f argv .normal] cs (.cons h2 .nil) hK
  exact ⟨vv, w', fr, ρ', h3 w, g1, g2, by rw [g3]; exact h2.fn.symm, g4, g5.fr⟩

end Go.Gx
