/-
  The soundness of that machine, fourth part: regions whose order the model draws.
-/
import Derived.Test.YtecfhgemkbnggaaGreatDoorGxD
import Derived.Orders
set_option linter.unusedVariables false
set_option linter.unusedSimpArgs false
set_option linter.unusedSectionVars false

namespace Go.Gx
open Go

/- An order that is drawn: what every such order keeps. -/

inductive Sched (ops : Array Oper) : Array Bool → List Nat → Prop
  | done {listed : Array Bool} : (∀ i, i < ops.size → listed.getD i true = true) → Sched ops listed []
  | step {listed : Array Bool} {i : Nat} {o : Oper} {rest : List Nat} : listed.getD i true = false → ops[i]? = some o → (∀ e ∈ o.after, Region.binds .any e = true → listed.getD e.on false = true) →
      Sched ops (listed.setIfInBounds i true) rest → Sched ops listed (i :: rest)

def left (n : Nat) (listed : Array Bool) : Nat := (List.range n).countP fun i => !listed.getD i true

theorem left_set : ∀ {n i : Nat} {listed : Array Bool}, i < n → listed.getD i true = false → left n (listed.setIfInBounds i true) + 1 = left n listed := by
  intro n
  induction n with
  | zero => intro i listed h; omega
  | succ n ih =>
    intro i listed h hl
    unfold left at ih ⊢
    rw [List.range_succ, List.countP_append, List.countP_append]
    by_cases e : i = n
    · subst e
      have hs : ∀ j ∈ List.range i, (!(listed.setIfInBounds i true).getD j true) = !listed.getD j true := by
        intro j hj
        rw [List.mem_range] at hj
        rw [getD_set_ne true (by omega : i ≠ j)]
      rw [List.countP_congr (fun j hj => by rw [hs j hj])]
      have hlt : i < listed.size := by
        rcases Nat.lt_or_ge i listed.size with h' | h'
        · exact h'
        · simp [Array.getElem?_eq_none h'] at hl
      have h1 : (listed.setIfInBounds i true).getD i true = true := by simp [hlt]
      simp only [List.countP_cons, List.countP_nil, h1, hl]
      simp
    · have := ih (i := i) (listed := listed) (by omega) hl
      have h1 : (listed.setIfInBounds i true).getD n true = listed.getD n true := getD_set_ne true e
      simp only [List.countP_cons, List.countP_nil, h1]
      omega

theorem left_zero {n : Nat} {listed : Array Bool} (h : left n listed = 0) : ∀ i, i < n → listed.getD i true = true := by
  intro i hi
  unfold left at h
  rw [List.countP_eq_zero] at h
  have := h i (by simpa using hi)
  simpa using this

theorem left_pos {n : Nat} {listed : Array Bool} (h : 0 < left n listed) : ∃ i, i < n ∧ listed.getD i true = false ∧ ∀ j, j < i → listed.getD j true = true := by
  have hex : ∃ i, i < n ∧ listed.getD i true = false := by
    unfold left at h
    obtain ⟨i, hi, hp⟩ := List.countP_pos_iff.1 h
    exact ⟨i, by simpa using hi, by simpa using hp⟩
  obtain ⟨i, hi, hp⟩ := hex
  induction i using Nat.strongRecOn with
  | ind i ih =>
    by_cases hall : ∀ j, j < i → listed.getD j true = true
    · exact ⟨i, hi, hp, hall⟩
    · simp only [Classical.not_forall] at hall
      obtain ⟨j, hj, hf⟩ := hall
      exact ih j hj (by omega) (by simpa using hf)

theorem sched_go {ops : Array Oper} (hedge : ∀ i o, ops[i]? = some o → ∀ e ∈ o.after, Region.binds .any e = true → e.on < i) : ∀ (fuel t : Nat) (listed : Array Bool), listed.size = ops.size → left ops.size listed = fuel →
    Sched ops listed (Region.linearise.go .any ops fuel t listed [])
  | 0, t, listed, _, hl => by
    simp only [Region.linearise.go, List.reverse_nil]
    exact .done (left_zero hl)
  | fuel + 1, t, listed, hsz, hl => by
    obtain ⟨i, hi, hf, hmin⟩ := left_pos (n := ops.size) (listed := listed) (by omega)
    have hmem : i ∈ Region.ready .any ops listed := by
      rw [mem_ready]
      refine ⟨hf, ops[i], Array.getElem?_eq_getElem hi, fun e he hb => ?_⟩
      have hlt := hedge i _ (Array.getElem?_eq_getElem hi) e he hb
      have h1 := hmin _ hlt
      have h2 : e.on < listed.size := by omega
      simpa [h2] using h1
    simp only [Region.linearise.go]
    have hready : ((List.range ops.size).filter fun i => !listed.getD i true && ((ops[i]?).map (·.after.all fun e => !Region.binds .any e || listed.getD e.on false)).getD false) = Region.ready .any ops listed := rfl
    rw [hready]
    have hpos : 0 < (Region.ready .any ops listed).length := List.length_pos_of_mem hmem
    have hlt := Nat.mod_lt t hpos
    rw [List.getElem?_eq_getElem hlt]
    simp only
    have hj : (Region.ready .any ops listed)[t % (Region.ready .any ops listed).length] ∈ Region.ready .any ops listed := List.getElem_mem hlt
    generalize (Region.ready .any ops listed)[t % (Region.ready .any ops listed).length] = j at hj
    rw [linearise_go_acc]
    obtain ⟨h1, o, ho, h2⟩ := mem_ready.1 hj
    have hjlt : j < ops.size := (Array.getElem?_eq_some_iff.1 ho).1
    refine .step h1 ho h2 (sched_go hedge fuel _ _ (by simpa using hsz) ?_)
    have := left_set (n := ops.size) hjlt h1
    omega

theorem left_all (n : Nat) : left n (Array.replicate n false) = n := by
  unfold left
  have : (List.range n).countP (fun i => !(Array.replicate n false).getD i true) = (List.range n).length := by
    rw [List.countP_eq_length]
    intro i hi
    rw [List.mem_range] at hi
    simp [hi]
  rw [this, List.length_range]

theorem sched_schedule {ops : Array Oper} (hedge : ∀ i o, ops[i]? = some o → ∀ e ∈ o.after, Region.binds .any e = true → e.on < i) (t : Nat) : Sched ops (Array.replicate ops.size false) (Region.schedule true ops t) := by
  unfold Region.schedule
  simp only [Bool.true_or, if_true, Region.linearise]
  exact sched_go hedge _ _ _ (by simp) (left_all _)

end Go.Gx

namespace Go.Gx
open Go

/- What the look at a region beforehand tells. -/

/-- An operation, and what the look at it tells. -/
def dop (E : Env) (all : List Oper) (o : Oper) (m : Nat) : DOp := ⟨o, cls E o.op, m, guardTmp all o ++ tmpsOf o.op.operands.toList⟩

def mkMask (o : Oper) (acc : List Nat) : Nat := o.after.foldl (fun s e => if Region.binds .any e then s ||| 2 ^ e.on ||| acc.getD e.on 0 else s) 0

theorem masks_spec : ∀ (l : List Oper) (acc : List Nat), ∃ tail, masks l acc = acc ++ tail ∧ tail.length = l.length ∧ ∀ j o, l[j]? = some o → tail[j]? = some (mkMask o (acc ++ tail.take j))
  | [], acc => ⟨[], by simp [masks], rfl, fun j o h => by simp at h⟩
  | o :: l, acc => by
    obtain ⟨tail, h1, h2, h3⟩ := masks_spec l (acc ++ [mkMask o acc])
    refine ⟨mkMask o acc :: tail, by simp only [masks]; rw [show acc ++ mkMask o acc :: tail = acc ++ [mkMask o acc] ++ tail by simp]; exact h1, by simp [h2], fun j o' h => ?_⟩
    cases j with
    | zero => simp only [List.getElem?_cons_zero, Option.some.injEq] at h; subst h; simp
    | succ j =>
      have := h3 j o' (by simpa using h)
      simpa using this

theorem fold_bits (acc : List Nat) (j : Nat) : ∀ (l : List Edge) (s : Nat), (l.foldl (fun s e => if Region.binds .any e then s ||| 2 ^ e.on ||| acc.getD e.on 0 else s) s).testBit j = true ↔
    s.testBit j = true ∨ ∃ e ∈ l, Region.binds .any e = true ∧ (j = e.on ∨ (acc.getD e.on 0).testBit j = true)
  | [], s => by simp
  | e :: l, s => by
    rw [List.foldl_cons, fold_bits acc j l]
    by_cases hb : Region.binds .any e = true
    · rw [if_pos hb]
      simp only [Nat.testBit_or, Bool.or_eq_true, Nat.testBit_two_pow, decide_eq_true_eq, List.mem_cons, exists_eq_or_imp, hb, true_and]
      constructor
      · rintro (((h | h) | h) | h)
        · exact .inl h
        · exact .inr (.inl (.inl h.symm))
        · exact .inr (.inl (.inr h))
        · exact .inr (.inr h)
      · rintro (h | (h | h) | h)
        · exact .inl (.inl (.inl h))
        · exact .inl (.inl (.inr h.symm))
        · exact .inl (.inr h)
        · exact .inr h
    · rw [if_neg hb]
      simp only [List.mem_cons, exists_eq_or_imp, hb, Bool.false_eq_true, false_and, false_or]

theorem mkMask_bits (o : Oper) (acc : List Nat) (j : Nat) : (mkMask o acc).testBit j = true ↔ ∃ e ∈ o.after, Region.binds .any e = true ∧ (j = e.on ∨ (acc.getD e.on 0).testBit j = true) := by
  unfold mkMask
  rw [← Array.foldl_toList, fold_bits]
  simp

theorem dops_get (E : Env) (all : List Oper) : ∀ (l : List Oper) (ms : List Nat), l.length = ms.length → ∀ (i : Nat) (o : Oper), l[i]? = some o → ∃ m, ms[i]? = some m ∧ (dops E all l ms)[i]? = some (dop E all o m)
  | [], _, _, i, o, h => by simp at h
  | _ :: _, [], h, _, _, _ => by simp at h
  | o :: l, m :: ms, hl, i, o', h => by
    cases i with
    | zero => simp only [List.getElem?_cons_zero, Option.some.injEq] at h; subst h; exact ⟨m, by simp, by simp [dops, dop]⟩
    | succ i =>
      obtain ⟨m', h1, h2⟩ := dops_get E all l ms (by simpa using hl) i o' (by simpa using h)
      exact ⟨m', by simpa using h1, by simpa [dops] using h2⟩

theorem dops_length (E : Env) (all : List Oper) : ∀ (l : List Oper) (ms : List Nat), l.length = ms.length → (dops E all l ms).length = l.length
  | [], _, _ => by simp [dops]
  | _ :: _, [], h => by simp at h
  | o :: l, m :: ms, hl => by simp [dops, dops_length E all l ms (by simpa using hl)]

theorem orderlyAt_spec (d : DOp) : ∀ (l : List DOp) (j : Nat), orderlyAt d j l = true → ∀ i e, l[i]? = some e → d.mask.testBit (j + i) = true ∨ loose d e = true
  | [], _, _, i, e, h => by simp at h
  | x :: l, j, h, i, e, he => by
    simp only [orderlyAt, Bool.and_eq_true, Bool.or_eq_true] at h
    cases i with
    | zero => simp only [List.getElem?_cons_zero, Option.some.injEq] at he; subst he; exact h.1
    | succ i =>
      have := orderlyAt_spec d l (j + 1) h.2 i e (by simpa using he)
      rwa [show j + 1 + i = j + (i + 1) by omega] at this

theorem orderly_spec (ds : List DOp) : ∀ (l : List DOp) (j : Nat), orderly ds j l = true → ∀ i d, l[i]? = some d →
    (∀ a e, a < j + i → ds[a]? = some e → d.mask.testBit a = true ∨ loose d e = true) ∧ (∀ g b, d.o.guard = some (g, b) → d.mask.testBit g = true) ∧ d.mask < 2 ^ (j + i)
  | [], _, _, i, d, h => by simp at h
  | x :: l, j, h, i, d, hd => by
    simp only [orderly, Bool.and_eq_true] at h
    cases i with
    | zero =>
      simp only [List.getElem?_cons_zero, Option.some.injEq] at hd
      subst hd
      obtain ⟨⟨⟨h1, h2⟩, h3⟩, _⟩ := h
      refine ⟨fun a e ha he => ?_, fun g b hg => ?_, blt_lt h3⟩
      · have := orderlyAt_spec x _ 0 h1 a e (by rw [List.getElem?_take, if_pos (by omega)]; exact he)
        simpa using this
      · rw [hg] at h2; exact h2
    | succ i =>
      have := orderly_spec ds l (j + 1) h.2 i d (by simpa using hd)
      rwa [show j + 1 + i = j + (i + 1) by omega] at this

/-- What is known of a region whose order is drawn. -/
structure Static (E : Env) (ops : Array Oper) (mask : Nat → Nat) : Prop where
  ds : ∀ i o, ops[i]? = some o → (drawDs E ops)[i]? = some (dop E ops.toList o (mask i))
  len : (drawDs E ops).length = ops.size
  lt : ∀ i o, ops[i]? = some o → mask i < 2 ^ i
  bits : ∀ i o, ops[i]? = some o → ∀ j, (mask i).testBit j = true ↔ ∃ e ∈ o.after, Region.binds .any e = true ∧ (j = e.on ∨ (mask e.on).testBit j = true)
  pair : ∀ i j o p, j < i → ops[i]? = some o → ops[j]? = some p → (mask i).testBit j = true ∨
    loose (dop E ops.toList o (mask i)) (dop E ops.toList p (mask j)) = true
  guard : ∀ i o, ops[i]? = some o → ∀ g b, o.guard = some (g, b) → (mask i).testBit g = true

theorem bit_lt {m i j : Nat} (h : m < 2 ^ i) (hb : m.testBit j = true) : j < i := by
  rcases Nat.lt_or_ge j i with h' | h'
  · exact h'
  · have : m < 2 ^ j := Nat.lt_of_lt_of_le h (Nat.pow_le_pow_right (by omega) h')
    rw [Nat.testBit_lt_two_pow this] at hb; cases hb

theorem static_of {E : Env} {ops : Array Oper} (h : drawOK E ops = true) : ∃ mask, Static E ops mask := by
  unfold drawOK at h
  rw [Bool.and_eq_true] at h
  obtain ⟨h, _⟩ := h
  obtain ⟨ms, h1, h2, h3⟩ := masks_spec ops.toList []
  simp only [List.nil_append] at h1 h3
  rw [h1] at h
  have hds : ∀ i o, ops[i]? = some o → (drawDs E ops)[i]? = some (dop E ops.toList o (ms.getD i 0)) := by
    intro i o ho
    obtain ⟨m, g1, g2⟩ := dops_get E ops.toList ops.toList ms h2.symm i o (by simpa using ho)
    unfold drawDs
    rw [h1, g2, List.getD_eq_getElem?_getD, g1]; rfl
  have hspec : ∀ i o, ops[i]? = some o → (∀ a e, a < 0 + i → (dops E ops.toList ops.toList ms)[a]? = some e → (ms.getD i 0).testBit a = true ∨ loose (dop E ops.toList o (ms.getD i 0)) e = true) ∧
      (∀ g b, o.guard = some (g, b) → (ms.getD i 0).testBit g = true) ∧ ms.getD i 0 < 2 ^ (0 + i) := fun i o ho => orderly_spec _ _ 0 h i _ (by have := hds i o ho; unfold drawDs at this; rw [h1] at this; exact this)
  have hlt : ∀ i o, ops[i]? = some o → ms.getD i 0 < 2 ^ i := fun i o ho => by have := (hspec i o ho).2.2; simpa using this
  refine ⟨fun i => ms.getD i 0, ⟨hds, ?_, hlt, fun i o ho j => ?_, fun i j o p hj ho hp => ?_, fun i o ho => (hspec i o ho).2.1⟩⟩
  · unfold drawDs; rw [h1, dops_length _ _ _ _ h2.symm]; simp
  · have hm := h3 i o (by simpa using ho)
    have hi : ms.getD i 0 = mkMask o (ms.take i) := by rw [List.getD_eq_getElem?_getD, hm]; rfl
    show (ms.getD i 0).testBit j = true ↔ _
    have key : ∀ e ∈ o.after, Region.binds .any e = true → (ms.take i).getD e.on 0 = ms.getD e.on 0 := by
      intro e he hb
      have hbit : (ms.getD i 0).testBit e.on = true := by rw [hi, mkMask_bits]; exact ⟨e, he, hb, .inl rfl⟩
      have := bit_lt (hlt i o ho) hbit
      simp only [List.getD_eq_getElem?_getD, List.getElem?_take, if_pos this]
    rw [hi, mkMask_bits]
    constructor
    · rintro ⟨e, he, hb, hj⟩; exact ⟨e, he, hb, by rwa [key e he hb] at hj⟩
    · rintro ⟨e, he, hb, hj⟩; exact ⟨e, he, hb, by rwa [key e he hb]⟩
  · have hdj := hds j p hp
    unfold drawDs at hdj
    rw [h1] at hdj
    exact (hspec i o ho).1 j _ (by omega) hdj

theorem Static.edge {E : Env} {ops : Array Oper} {mask : Nat → Nat} (h : Static E ops mask) : ∀ i o, ops[i]? = some o → ∀ e ∈ o.after, Region.binds .any e = true → e.on < i :=
  fun i o ho e he hb => bit_lt (h.lt i o ho) ((h.bits i o ho e.on).2 ⟨e, he, hb, .inl rfl⟩)

end Go.Gx

namespace Go.Gx
open Go

/- The text's run of a region, and its slots. -/

structure Trace (E : Env) (me : List AFr → St → Option Out) (all l : List Oper) (ntm id : Nat) (s : Nat → DSt) (v : Nat → AV) : Prop where
  val : ∀ (i : Nat) (o : Oper), l[i]? = some o → dval E me all o (id + i) (s i) = some (v i, (s (i + 1)).H)
  put : ∀ (i : Nat) (o : Oper), l[i]? = some o → aput (s i).tm o.dst ntm (v i) (fun t => some t) = some (s (i + 1)).tm

theorem drun_trace {E : Env} {self : List AFr → St → Option Out} {all : List Oper} {ntm : Nat} : ∀ {l : List Oper} {id : Nat} {s0 : DSt} {ss : List DSt} {e : DSt}, drun E self all ntm l id s0 = some (ss, e) →
    ∃ s v, s 0 = s0 ∧ s l.length = e ∧ (∀ i, i ≤ l.length → ss[i]? = some (s i)) ∧ Trace E self all l ntm id s v
  | [], id, s0, ss, e, h => by
    simp only [drun, Option.some.injEq, Prod.mk.injEq] at h
    obtain ⟨rfl, rfl⟩ := h
    exact ⟨fun _ => s0, fun _ => .any, rfl, rfl, fun i hi => by
      simp only [List.length_nil, Nat.le_zero] at hi; subst hi; rfl, ⟨fun i o h => by simp at h, fun i o h => by simp at h⟩⟩
  | o :: l, id, s0, ss, e, h => by
    simp only [drun] at h
    split at h
    · cases h
    rename_i v H hv
    split at h
    · cases h
    rename_i tm htm
    split at h
    · cases h
    rename_i ss' e' hr
    simp only [Option.some.injEq, Prod.mk.injEq] at h
    obtain ⟨rfl, rfl⟩ := h
    obtain ⟨s, u, h1, h2, h3, h4⟩ := drun_trace hr
    refine ⟨fun i => match i with | 0 => s0 | i + 1 => s i, fun i => match i with | 0 => v | i + 1 => u i, rfl, h2, fun i hi => ?_, ⟨fun i o' ho => ?_, fun i o' ho => ?_⟩⟩
    · cases i with
      | zero => rfl
      | succ i => simpa using h3 i (by simpa using hi)
    · cases i with
      | zero =>
        simp only [List.getElem?_cons_zero, Option.some.injEq] at ho
        subst ho
        show dval E self all o id s0 = some (v, (s 0).H)
        rw [h1]; exact hv
      | succ i =>
        have := h4.val i o' (by simpa using ho)
        show dval E self all o' (id + (i + 1)) (s i) = some (u i, (s (i + 1)).H)
        rw [show id + (i + 1) = Nat.succ id + i by omega]; exact this
    · cases i with
      | zero =>
        simp only [List.getElem?_cons_zero, Option.some.injEq] at ho
        subst ho
        show aput s0.tm o.dst ntm v _ = some (s 0).tm
        rw [h1]; exact htm
      | succ i => exact h4.put i o' (by simpa using ho)

theorem aput_some {tm tm' : Tr AV} {dst : Option Tmp} {n : Nat} {v : AV} (h : aput tm dst n v (fun t => some t) = some tm') : (∀ d, dst = some d → d < n) ∧ ∀ t, tm'.get t = if dst = some t then some v else tm.get t := by
  unfold aput at h
  split at h
  · cases h
    exact ⟨fun d h => (by cases h), fun t => (by simp)⟩
  · rename_i d
    split at h
    case h_2 => cases h
    rename_i hlt
    rw [forceV_eq, Tr.setK_eq] at h
    cases h
    refine ⟨fun d' h => (by cases h; exact blt_lt hlt), fun t => ?_⟩
    rw [Tr.get_set]
    by_cases e : t = d
    · subst e; simp
    · rw [if_neg e, if_neg (fun h => e (Option.some.inj h).symm)]

/-- What a slot holds, where just the operations of `S` have run. -/
def tget (dst : Nat → Option Tmp) (v : Nat → AV) (t0 : Tr AV) (S : Nat → Bool) : Nat → Tmp → Option AV
  | 0, t => t0.get t
  | i + 1, t => if S i = true ∧ dst i = some t then some (v i) else tget dst v t0 S i t

theorem tget_same {dst : Nat → Option Tmp} {v : Nat → AV} {t0 : Tr AV} {S T : Nat → Bool} {t : Tmp} : ∀ {i : Nat}, (∀ j, j < i → dst j = some t → S j = T j) → tget dst v t0 S i t = tget dst v t0 T i t
  | 0, _ => rfl
  | i + 1, h => by
    simp only [tget]
    rw [tget_same (i := i) fun j hj => h j (by omega)]
    by_cases hd : dst i = some t
    · rw [h i (by omega) hd]
    · simp [hd]

theorem tget_skip {dst : Nat → Option Tmp} {v : Nat → AV} {t0 : Tr AV} {S : Nat → Bool} {t : Tmp} {i : Nat} : ∀ {n : Nat}, i ≤ n → (∀ j, i ≤ j → j < n → dst j = some t → S j = false) → tget dst v t0 S n t = tget dst v t0 S i t
  | 0, hn, _ => by have : i = 0 := by omega
                   subst this; rfl
  | n + 1, hn, h => by
    by_cases e : i = n + 1
    · rw [e]
    · simp only [tget]
      rw [if_neg, tget_skip (n := n) (by omega) fun j h1 h2 => h j h1 (by omega)]
      rintro ⟨h1, h2⟩
      rw [h n (by omega) (by omega) h2] at h1; cases h1

/-- An operation more has run: its slot. -/
theorem tget_at {dst : Nat → Option Tmp} {v : Nat → AV} {t0 : Tr AV} {S : Nat → Bool} {t : Tmp} {i n : Nat} (hi : i < n) (hS : S i = true) (hd : dst i = some t) (h : ∀ j, i < j → j < n → dst j = some t → S j = false) :
    tget dst v t0 S n t = some (v i) := by
  rw [tget_skip (i := i + 1) (by omega) fun j h1 h2 h3 => h j (by omega) h2 h3]
  simp only [tget]
  rw [if_pos ⟨hS, hd⟩]

def dstOf (l : List Oper) (i : Nat) : Option Tmp := (l[i]?).bind (·.dst)

theorem Trace.slots {E : Env} {self : List AFr → St → Option Out} {all l : List Oper} {ntm id : Nat} {s : Nat → DSt} {v : Nat → AV} (h : Trace E self all l ntm id s v) : ∀ i, i ≤ l.length → ∀ t, (s i).tm.get t = tget (dstOf l) v (s 0).tm (fun _ => true) i t
  | 0, _, t => rfl
  | i + 1, hi, t => by
    have ho : l[i]? = some l[i] := List.getElem?_eq_getElem (by omega)
    have := (aput_some (h.put i _ ho)).2 t
    rw [this, Trace.slots h i (by omega) t]
    simp only [tget, true_and]
    have hd : dstOf l i = (l[i]).dst := by unfold dstOf; rw [ho]; rfl
    rw [hd]

theorem restr_get (tm : Tr AV) : ∀ (l : List Tmp) (t : Tr AV) (r : Tmp), (restr tm l t).get r = if r ∈ l then tm.get r else t.get r
  | [], t, r => by simp [restr]
  | x :: l, t, r => by
    simp only [restr]
    rw [restr_get tm l, Tr.get_set]
    by_cases h1 : r ∈ l
    · simp [h1]
    · by_cases h2 : r = x
      · subst h2; simp [h1]
      · simp [h1, h2]

end Go.Gx

namespace Go.Gx
open Go

/- What holds of a region in the midst of a drawn order. -/

def isWr (E : Env) (ops : Array Oper) (i : Nat) : Bool :=
  match ops[i]? with
  | some o => isW (cls E o.op)
  | none => false

/-- Operation `j` makes a block. -/
def Mk (E : Env) (ops : Array Oper) (s : Nat → DSt) (j : Nat) (A : ABlk) (f : Nat → AV) : Prop :=
  ∃ o, ops[j]? = some o ∧ cls E o.op = .make ∧ awanted ops.toList (restr (s j).tm (looksAt ops.toList o) .nil) o = some true ∧ amk E (restr (s j).tm (looksAt ops.toList o) .nil) o.op = some (A, f)

theorem Mk.fn {E : Env} {ops : Array Oper} {s : Nat → DSt} {j : Nat} {A A' : ABlk} {f f' : Nat → AV} (h : Mk E ops s j A f) (h' : Mk E ops s j A' f') : A = A' ∧ f = f' := by
  obtain ⟨o, h1, h2, h3, h4⟩ := h
  obtain ⟨o', g1, g2, g3, g4⟩ := h'
  rw [h1] at g1; cases g1
  rw [h4] at g4; cases g4
  exact ⟨rfl, rfl⟩

section
variable {E : Env} {ops : Array Oper} {self : List AFr → St → Option Out} {ntm id : Nat} {s : Nat → DSt} {v : Nat → AV} (hT : Trace E self ops.toList ops.toList ntm id s v)
include hT

theorem mk_step {j : Nat} {A : ABlk} {f : Nat → AV} (h : Mk E ops s j A f) : (s (j + 1)).H = ⟨(s j).H.blk.set (id + j) (some A), (s j).H.nxt⟩ ∧ v j = f (id + j) := by
  obtain ⟨o, h1, h2, h3, h4⟩ := h
  have := hT.val j o (by simpa using h1)
  unfold dval dvalAt at this
  simp only [h3, h2, h4, Tr.setK_eq, Option.some.injEq, Prod.mk.injEq] at this
  exact ⟨this.2.symm, this.1.symm⟩

theorem quiet_step {j : Nat} (hj : j < ops.size) (hw : isWr E ops j = false) (hm : ¬ ∃ A f, Mk E ops s j A f) : (s (j + 1)).H = (s j).H := by
  obtain ⟨o, ho⟩ : ∃ o, ops[j]? = some o := ⟨_, Array.getElem?_eq_getElem hj⟩
  have := hT.val j o (by simpa using ho)
  unfold isWr at hw
  rw [ho] at hw
  simp only at hw
  unfold dval dvalAt at this
  split at this
  · cases this
  · simp only [Option.some.injEq, Prod.mk.injEq] at this; exact this.2.symm
  · rename_i hwant
    split at this
    · split at this
      · simp only [Option.some.injEq, Prod.mk.injEq] at this; exact this.2.symm
      · cases this
    · split at this
      · simp only [Option.some.injEq, Prod.mk.injEq] at this; exact this.2.symm
      · cases this
    · rename_i hcls
      split at this
      · rename_i A f hmk
        exact absurd ⟨A, f, o, ho, hcls, hwant, hmk⟩ hm
      · cases this
    · rename_i hcls; rw [hcls] at hw; cases hw
    · rename_i hcls; rw [hcls] at hw; cases hw

end

/-- In the midst: `listed` have run; of the writers those ahead of `q`. -/
structure Mid (E : Env) (ops : Array Oper) (id : Nat) (s : Nat → DSt) (B : Nat) (listed : Array Bool) (q : Nat) (ρ : Ren) (w : World) : Prop where
  wr : ∀ i, i < ops.size → isWr E ops i = true → (listed.getD i true = true ↔ i < q)
  qle : q ≤ ops.size
  ok : Ok E B ρ (s q).H w
  nxt : id + ops.size ≤ (s q).H.nxt
  dead : ∀ j, q ≤ j → j < ops.size → (s q).H.blk.get (id + j) = none
  made : ∀ j A f, Mk E ops s j A f → listed.getD j true = true → ∃ k, ρ (id + j) = some k ∧ (q ≤ j → ¬ Held ρ (s q).H k.b ∧ ∃ ob, w.heap[k.b]? = some ob ∧ RelB ρ A k.tot ob)
  apart : ∀ j j' k k', q ≤ j → j < ops.size → q ≤ j' → j' < ops.size → ρ (id + j) = some k → ρ (id + j') = some k' → k.b = k'.b → j = j'
  unmade : ∀ j, j < ops.size → (listed.getD j true = false ∨ ¬ ∃ A f, Mk E ops s j A f) → ρ (id + j) = none
  kept : ∀ j A f, Mk E ops s j A f → listed.getD j true = false → j < q → (s q).H.blk.get (id + j) = some A

section
variable {E : Env} {ops : Array Oper} {self : List AFr → St → Option Out} {ntm id : Nat} {s : Nat → DSt} {v : Nat → AV} (hT : Trace E self ops.toList ops.toList ntm id s v) {B : Nat} {listed : Array Bool} {q : Nat} {ρ : Ren} {w : World}
include hT

/-- Past an operation that writes nothing. -/
theorem Mid.pass (h : Mid E ops id s B listed q ρ w) (hq : q < ops.size) (hw : isWr E ops q = false) : Mid E ops id s B listed (q + 1) ρ w := by
  have hwr : ∀ i, i < ops.size → isWr E ops i = true → (listed.getD i true = true ↔ i < q + 1) := by
    intro i hi hwi
    rw [h.wr i hi hwi]
    have : i ≠ q := fun e => by rw [e, hw] at hwi; cases hwi
    omega
  by_cases hm : ∃ A f, Mk E ops s q A f
  · obtain ⟨A, f, hm⟩ := hm
    obtain ⟨hH, _⟩ := mk_step hT hm
    have hne : ∀ {j}, j ≠ q → (s (q + 1)).H.blk.get (id + j) = (s q).H.blk.get (id + j) := by
      intro j hj
      rw [hH]; exact Tr.get_set_ne _ _ _ (by omega)
    have hneq : ∀ {i}, i ≠ id + q → (s (q + 1)).H.blk.get i = (s q).H.blk.get i := by
      intro i hi; rw [hH]; exact Tr.get_set_ne _ _ _ hi
    have heq : (s (q + 1)).H.blk.get (id + q) = some A := by rw [hH]; exact Tr.get_set_same _ _ _
    have hnx : (s (q + 1)).H.nxt = (s q).H.nxt := by rw [hH]
    -- if the block is there already
    have hthere : ∀ k, ρ (id + q) = some k → ¬ Held ρ (s q).H k.b ∧ ∃ ob, w.heap[k.b]? = some ob ∧ RelB ρ A k.tot ob := by
      intro k hk
      have hl : listed.getD q true = true := by
        cases hc : listed.getD q true with
        | true => rfl
        | false => rw [h.unmade q hq (.inl hc)] at hk; cases hk
      obtain ⟨k', hk', hx⟩ := h.made q A f hm hl
      rw [hk] at hk'; cases hk'
      exact hx (Nat.le_refl _)
    have hheld : ∀ {b}, Held ρ (s (q + 1)).H b → Held ρ (s q).H b ∨ ∃ k, ρ (id + q) = some k ∧ k.b = b := by
      rintro b ⟨i, k, hk, hb, hg⟩
      by_cases e : i = id + q
      · subst e; exact .inr ⟨k, hk, hb⟩
      · rw [hneq e] at hg; exact .inl ⟨i, k, hk, hb, hg⟩
    refine ⟨hwr, hq, ⟨⟨fun i k hk => by rw [hnx]; exact h.ok.rel.fresh i k hk, h.ok.rel.base, h.ok.rel.lt, ?_, ?_, ?_⟩, h.ok.glo, h.ok.le⟩, by rw [hnx]; exact h.nxt, ?_, ?_, ?_, h.unmade, ?_⟩
    · intro i j k l hi hj hkl hg hg'
      by_cases e : i = id + q <;> by_cases e' : j = id + q
      · rw [e, e']
      · subst e
        rw [hneq e'] at hg'
        exact absurd ⟨j, l, hj, hkl.symm, hg'⟩ (hthere k hi).1
      · subst e'
        rw [hneq e] at hg
        exact absurd ⟨i, k, hi, hkl, hg⟩ (hthere l hj).1
      · rw [hneq e] at hg
        rw [hneq e'] at hg'
        exact h.ok.rel.inj i j k l hi hj hkl hg hg'
    · intro i hg
      rw [hnx]
      by_cases e : i = id + q
      · rw [e]; have := h.nxt; omega
      · rw [hneq e] at hg; exact h.ok.rel.live i hg
    · intro i A' k hg hk
      by_cases e : i = id + q
      · subst e
        rw [heq] at hg; cases hg
        exact (hthere k hk).2
      · rw [hneq e] at hg; exact h.ok.rel.blk i A' k hg hk
    · intro j hj hjn
      rw [hne (by omega)]; exact h.dead j (by omega) hjn
    · intro j A' f' hm' hl
      obtain ⟨k, hk, hx⟩ := h.made j A' f' hm' hl
      refine ⟨k, hk, fun hj => ⟨fun hh => ?_, (hx (by omega)).2⟩⟩
      rcases hheld hh with hh | ⟨k', hk', hb⟩
      · exact (hx (by omega)).1 hh
      · obtain ⟨o, ho, _⟩ := hm'
        have hjs : j < ops.size := (Array.getElem?_eq_some_iff.1 ho).1
        have := h.apart q j k' k (Nat.le_refl _) hq (by omega) hjs hk' hk hb
        omega
    · intro j j' k k' hj hjn hj' hjn' hk hk' hb
      exact h.apart j j' k k' (by omega) hjn (by omega) hjn' hk hk' hb
    · intro j A' f' hm' hl hj
      by_cases e : j = q
      · subst e
        rw [heq, (hm.fn hm').1]
      · rw [hne e]; exact h.kept j A' f' hm' hl (by omega)
  · have hH := quiet_step hT hq hw hm
    refine ⟨hwr, hq, by rw [hH]; exact h.ok, by rw [hH]; exact h.nxt, fun j hj hjn => by rw [hH]; exact h.dead j (by omega) hjn, fun j A f hm' hl => ?_, fun j j' k k' hj hjn hj' => h.apart j j' k k' (by omega) hjn (by omega), h.unmade, fun j A f hm' hl hj => ?_⟩
    · obtain ⟨k, hk, hx⟩ := h.made j A f hm' hl
      exact ⟨k, hk, fun hj => by rw [hH]; exact hx (by omega)⟩
    · rw [hH]
      have : j ≠ q := fun e => hm ⟨A, f, e ▸ hm'⟩
      exact h.kept j A f hm' hl (by omega)

/-- Up to the next writer. -/
theorem Mid.settle (h : Mid E ops id s B listed q ρ w) : ∃ q', q ≤ q' ∧ Mid E ops id s B listed q' ρ w ∧ (q' = ops.size ∨ isWr E ops q' = true) := by
  obtain ⟨n, hn⟩ : ∃ n, n = ops.size - q := ⟨_, rfl⟩
  induction n generalizing q with
  | zero => exact ⟨q, Nat.le_refl _, h, .inl (by have := h.qle; omega)⟩
  | succ n ih =>
    cases hw : isWr E ops q with
    | true => exact ⟨q, Nat.le_refl _, h, .inr hw⟩
    | false =>
      obtain ⟨q', h1, h2, h3⟩ := ih (h.pass hT (by omega) hw) (by omega)
      exact ⟨q', by omega, h2, h3⟩

end

end Go.Gx

namespace Go.Gx
open Go

/- The slots in the midst of a drawn order. -/

/-- What has run has all behind it on which it hangs. -/
def Closed (ops : Array Oper) (mask : Nat → Nat) (listed : Array Bool) : Prop :=
  ∀ i, i < ops.size → listed.getD i true = true → ∀ j, (mask i).testBit j = true → listed.getD j true = true

theorem loose_spec {d e : DOp} (h : loose d e = true) : (isW d.cl && isW e.cl) = false ∧ hasDst e d.reads = false ∧ hasDst e d.o.dst.toList = false ∧ hasDst d e.reads = false := by
  unfold loose at h
  simp only [Bool.and_eq_true, Bool.not_eq_true'] at h
  exact ⟨h.1.1.1, h.1.1.2, h.1.2, h.2⟩

theorem hasDst_not {d : DOp} {l : List Tmp} {t : Tmp} (h : hasDst d l = false) (hd : d.o.dst = some t) : t ∉ l := by
  unfold hasDst at h
  rw [hd] at h
  simpa using h

/-- Slots in the midst. -/
def Slots (ops : Array Oper) (v : Nat → AV) (t0 : Tr AV) (ntm : Nat) (listed : Array Bool) (ρ : Ren) (vs : Array Value) : Prop :=
  ntm ≤ vs.size ∧ ∀ t a, tget (dstOf ops.toList) v t0 (fun i => listed.getD i true) ops.size t = some a → t < ntm ∧ ∃ val, vs[t]? = some val ∧ Rv ρ a val

section
variable {E : Env} {ops : Array Oper} {mask : Nat → Nat} (hS : Static E ops mask) {listed : Array Bool} (hC : Closed ops mask listed)
include hS hC

/-- What has run, of two that are bound or loose. -/
theorem before_ok {i j : Nat} {o p : Oper} (ho : ops[i]? = some o) (hp : ops[j]? = some p) (hj : j < i) (hready : ∀ e ∈ o.after, Region.binds .any e = true → listed.getD e.on false = true) :
    listed.getD j true = true ∨ loose (dop E ops.toList o (mask i)) (dop E ops.toList p (mask j)) = true := by
  rcases hS.pair i j o p hj ho hp with h | h
  · refine .inl ?_
    obtain ⟨e, he, hb, hx⟩ := (hS.bits i o ho j).1 h
    have hlt := hS.edge i o ho e he hb
    have hil : i < ops.size := (Array.getElem?_eq_some_iff.1 ho).1
    have hon := hready e he hb
    have hon' : listed.getD e.on true = true := by
      rw [Array.getD_eq_getD_getElem?] at hon ⊢
      cases hc : listed[e.on]? with
      | none => rfl
      | some b => rw [hc] at hon; exact hon
    rcases hx with rfl | hx
    · exact hon'
    · exact hC e.on (by omega) hon' j hx
  · exact .inr h

theorem after_ok {i j : Nat} {o p : Oper} (ho : ops[i]? = some o) (hp : ops[j]? = some p) (hj : i < j) (hl : listed.getD j true = true) (hi : listed.getD i true = false) :
    loose (dop E ops.toList p (mask j)) (dop E ops.toList o (mask i)) = true := by
  rcases hS.pair j i p o hj hp ho with h | h
  · have := hC j (Array.getElem?_eq_some_iff.1 hp).1 hl i h
    rw [hi] at this; cases this
  · exact h

theorem slot_eq {me : List AFr → St → Option Out} {ntm id : Nat} {s : Nat → DSt} {v : Nat → AV} (hT : Trace E me ops.toList ops.toList ntm id s v) {i : Nat} {o : Oper} (ho : ops[i]? = some o)
    (hready : ∀ e ∈ o.after, Region.binds .any e = true → listed.getD e.on false = true) (hi : listed.getD i true = false) {t : Tmp} (ht : t ∈ looksAt ops.toList o) :
    (s i).tm.get t = tget (dstOf ops.toList) v (s 0).tm (fun i => listed.getD i true) ops.size t := by
  have hil : i < ops.size := (Array.getElem?_eq_some_iff.1 ho).1
  have hget : ∀ {j}, j < ops.size → dstOf ops.toList j = some t → ∃ p, ops[j]? = some p ∧ p.dst = some t := by
    intro j hj hd
    refine ⟨ops[j], Array.getElem?_eq_getElem hj, ?_⟩
    unfold dstOf at hd
    simpa [hj] using hd
  rw [hT.slots i (by simpa using Nat.le_of_lt hil) t]
  rw [tget_skip (S := fun i => listed.getD i true) (i := i) (Nat.le_of_lt hil) fun j h1 h2 h3 => ?_]
  · refine tget_same fun j h1 h2 => ?_
    obtain ⟨p, hp, hd⟩ := hget (by omega) h2
    rcases before_ok hS hC ho hp h1 hready with h | h
    · exact h.symm
    · exact absurd ht (hasDst_not (loose_spec h).2.1 hd)
  · obtain ⟨p, hp, hd⟩ := hget h2 h3
    by_cases e : j = i
    · rw [e]; exact hi
    · cases hc : listed.getD j true with
      | false => rfl
      | true => exact absurd ht (hasDst_not (loose_spec (after_ok hS hC ho hp (by omega) hc hi)).2.2.2 hd)

/-- The operands of an operation that is ready. -/
theorem slots_eval {me : List AFr → St → Option Out} {ntm id : Nat} {s : Nat → DSt} {v : Nat → AV} (hT : Trace E me ops.toList ops.toList ntm id s v) {i : Nat} {o : Oper} (ho : ops[i]? = some o)
    (hready : ∀ e ∈ o.after, Region.binds .any e = true → listed.getD e.on false = true) (hi : listed.getD i true = false) {ρ : Ren} {fr : Frame} (hsl : Slots ops v (s 0).tm ntm listed ρ fr.tmps) :
    RvT ρ (restr (s i).tm (looksAt ops.toList o) .nil) ntm fr.tmps := by
  refine ⟨hsl.1, fun t a ha => ?_⟩
  rw [restr_get] at ha
  split at ha
  · rename_i hmem
    rw [slot_eq hS hC hT ho hready hi hmem] at ha
    exact hsl.2 t a ha
  · simp at ha

end

end Go.Gx

namespace Go.Gx
open Go

/- One operation more of a drawn order. -/

theorem listed_ne {listed : Array Bool} {i j : Nat} (h : i ≠ j) : (listed.setIfInBounds i true).getD j true = listed.getD j true := getD_set_ne true h

theorem listed_false {listed : Array Bool} {i j : Nat} (h : (listed.setIfInBounds i true).getD j true = false) : listed.getD j true = false ∧ j ≠ i := by
  by_cases e : i = j
  · subst e
    exfalso
    by_cases hlt : i < listed.size
    · simp [hlt] at h
    · simp [hlt] at h
  · rw [listed_ne e] at h; exact ⟨h, fun h => e h.symm⟩

section
variable {E : Env} {ops : Array Oper} {self : List AFr → St → Option Out} {ntm id : Nat} {s : Nat → DSt} {v : Nat → AV} (hT : Trace E self ops.toList ops.toList ntm id s v) {B : Nat} {listed : Array Bool} {q : Nat} {ρ : Ren} {w : World}

/-- It neither writes nor makes. -/
theorem Mid.quiet (h : Mid E ops id s B listed q ρ w) {i : Nat} (hw : isWr E ops i = false) (hm : ¬ ∃ A f, Mk E ops s i A f) : Mid E ops id s B (listed.setIfInBounds i true) q ρ w := by
  refine ⟨fun j hj hwj => ?_, h.qle, h.ok, h.nxt, h.dead, fun j A f hmj hl => ?_, h.apart, fun j hj hl => ?_, fun j A f hmj hl hj => h.kept j A f hmj (listed_false hl).1 hj⟩
  · have : i ≠ j := fun e => by rw [e, hwj] at hw; cases hw
    rw [listed_ne this]; exact h.wr j hj hwj
  · have : i ≠ j := fun e => hm ⟨A, f, e ▸ hmj⟩
    rw [listed_ne this] at hl; exact h.made j A f hmj hl
  · rcases hl with hl | hl
    · exact h.unmade j hj (.inl (listed_false hl).1)
    · exact h.unmade j hj (.inr hl)

/-- It makes a block. -/
theorem Mid.makes (h : Mid E ops id s B listed q ρ w) {i : Nat} (hi : listed.getD i true = false) {A : ABlk} {f : Nat → AV} (hm : Mk E ops s i A f) (hw : isWr E ops i = false) {tot : Nat} {ob : Obj} (hr : RelB ρ A tot ob) :
    Le ρ (ρ.add (id + i) ⟨w.heap.size, tot⟩) ∧ Mid E ops id s B (listed.setIfInBounds i true) q (ρ.add (id + i) ⟨w.heap.size, tot⟩) { w with heap := w.heap.push ob } := by
  have hm2 := hm
  obtain ⟨o, ho, _⟩ := hm2
  have hin : i < ops.size := (Array.getElem?_eq_some_iff.1 ho).1
  have hnone := h.unmade i hin (.inl hi)
  have hle : Le ρ (ρ.add (id + i) ⟨w.heap.size, tot⟩) := Ren.le_add _ hnone
  have hsz : ({ w with heap := w.heap.push ob } : World).heap.size = w.heap.size + 1 := by simp
  have hne : ∀ {j}, j ≠ i → ρ.add (id + i) ⟨w.heap.size, tot⟩ (id + j) = ρ (id + j) := fun hj => Ren.add_ne _ _ (by omega)
  have hheld : ∀ {b}, b < w.heap.size → Held (ρ.add (id + i) ⟨w.heap.size, tot⟩) (s q).H b → Held ρ (s q).H b := by
    rintro b hb ⟨j, k, hk, hkb, hg⟩
    rcases Ren.add_cases hk with ⟨_, rfl⟩ | ⟨_, hk⟩
    · simp only at hkb; omega
    · exact ⟨j, k, hk, hkb, hg⟩
  refine ⟨hle, fun j hj hwj => ?_, h.qle, ⟨⟨fun j k hk => ?_, fun j k hk => ?_, fun j k hk => ?_, fun j j' k l hk hl hkl hg hg' => ?_, h.ok.rel.live, fun j A' k hg hk => ?_⟩, fun g c off a hg ha => ?_, by rw [hsz]; have := h.ok.le; omega⟩, h.nxt, h.dead, fun j A' f' hmj hl => ?_,
    fun j j' k k' hj hjn hj' hjn' hk hk' hb => ?_, fun j hj hl => ?_, fun j A' f' hmj hl hj => h.kept j A' f' hmj (listed_false hl).1 hj⟩
  · have : i ≠ j := fun e => by rw [e, hwj] at hw; cases hw
    rw [listed_ne this]; exact h.wr j hj hwj
  · rcases Ren.add_cases hk with ⟨rfl, _⟩ | ⟨_, hk⟩
    · have := h.nxt; omega
    · exact h.ok.rel.fresh j k hk
  · rcases Ren.add_cases hk with ⟨_, rfl⟩ | ⟨_, hk⟩
    · exact h.ok.le
    · exact h.ok.rel.base j k hk
  · rw [hsz]
    rcases Ren.add_cases hk with ⟨_, rfl⟩ | ⟨_, hk⟩
    · simp
    · have := h.ok.rel.lt j k hk; omega
  · rcases Ren.add_cases hk with ⟨h1, h2⟩ | ⟨h1, hk⟩ <;> rcases Ren.add_cases hl with ⟨h3, h4⟩ | ⟨h3, hl⟩
    · rw [h1, h3]
    · have := h.ok.rel.lt j' l hl; rw [h2] at hkl; simp only at hkl; omega
    · have := h.ok.rel.lt j k hk; rw [h4] at hkl; simp only at hkl; omega
    · exact h.ok.rel.inj j j' k l hk hl hkl hg hg'
  · rcases Ren.add_cases hk with ⟨rfl, rfl⟩ | ⟨_, hk⟩
    · refine ⟨ob, by simp, ?_⟩
      rcases Nat.lt_or_ge i q with hq | hq
      · rw [h.kept i A f hm hi hq] at hg; cases hg
        exact hr.mono hle
      · rw [h.dead i hq hin] at hg; cases hg
    · obtain ⟨o', ho', hr'⟩ := h.ok.rel.blk j A' k hg hk
      exact ⟨o', by rw [← ho']; exact getElem?_push_lt _ _ (h.ok.rel.lt j k hk), hr'.mono hle⟩
  · obtain ⟨h1, v', h2, h3⟩ := h.ok.glo g c off a hg ha
    refine ⟨h1, v', ?_, h3⟩
    have hlt : g < w.heap.size := Nat.lt_of_lt_of_le h1 h.ok.le
    unfold World.cell? at h2 ⊢
    simp only at h2 ⊢
    rw [getElem?_push_lt _ _ hlt]; exact h2
  · by_cases e : j = i
    · subst e
      refine ⟨⟨w.heap.size, tot⟩, Ren.add_same _ _ _, fun hq => ⟨?_, ob, by simp, by rw [← (hm.fn hmj).1]; exact hr.mono hle⟩⟩
      rintro ⟨x, k, hk, hkb, hg⟩
      rcases Ren.add_cases hk with ⟨rfl, _⟩ | ⟨_, hk⟩
      · exact hg (h.dead j hq hin)
      · have := h.ok.rel.lt x k hk; simp only at hkb; omega
    · rw [listed_ne (fun h => e h.symm)] at hl
      obtain ⟨k, hk, hx⟩ := h.made j A' f' hmj hl
      have hlt := h.ok.rel.lt _ k hk
      refine ⟨k, hle _ _ hk, fun hq => ⟨fun hh => (hx hq).1 (hheld hlt hh), ?_⟩⟩
      obtain ⟨o', ho', hr'⟩ := (hx hq).2
      exact ⟨o', by rw [← ho']; exact getElem?_push_lt _ _ hlt, hr'.mono hle⟩
  · by_cases e : j = i <;> by_cases e' : j' = i
    · rw [e, e']
    · subst e
      rw [Ren.add_same] at hk; cases hk
      rw [hne e'] at hk'
      have := h.ok.rel.lt _ k' hk'; simp only at hb; omega
    · subst e'
      rw [Ren.add_same] at hk'; cases hk'
      rw [hne e] at hk
      have := h.ok.rel.lt _ k hk; simp only at hb; omega
    · rw [hne e] at hk
      rw [hne e'] at hk'
      exact h.apart j j' k k' hj hjn hj' hjn' hk hk' hb
  · have : j ≠ i := by
      rcases hl with hl | hl
      · exact (listed_false hl).2
      · intro e; exact hl ⟨A, f, e ▸ hm⟩
    rw [hne this]
    refine h.unmade j hj ?_
    rcases hl with hl | hl
    · exact .inl (listed_false hl).1
    · exact .inr hl

end

end Go.Gx

namespace Go.Gx
open Go

/- A writer of a drawn order. -/

section
variable {E : Env} {ops : Array Oper} {self : List AFr → St → Option Out} {ntm id : Nat} {s : Nat → DSt} {v : Nat → AV} {B : Nat} {listed : Array Bool} {q : Nat} {ρ ρ' : Ren} {w w' : World}

theorem Mid.write (h : Mid E ops id s B listed q ρ w) (hq : q < ops.size) (hw : isWr E ops q = true) (hl : listed.size = ops.size) (hr : Res B ρ (s q).H w ρ' (s (q + 1)).H w') : Mid E ops id s B (listed.setIfInBounds q true) (q + 1) ρ' w' := by
  have hnm : ∀ A f, ¬ Mk E ops s q A f := by
    rintro A f ⟨o, ho, hc, _⟩
    unfold isWr at hw
    rw [ho] at hw
    simp only [hc] at hw
    cases hw
  have hnl : listed.getD q true = false := by
    cases hc : listed.getD q true with
    | false => rfl
    | true => have := (h.wr q hq hw).1 hc; omega
  have hlt : ∀ {j}, j < ops.size → id + j < (s q).H.nxt := fun hj => by have := h.nxt; omega
  have hnone : ∀ {j}, j < ops.size → ρ (id + j) = none → ρ' (id + j) = none ∧ (s (q + 1)).H.blk.get (id + j) = (s q).H.blk.get (id + j) := fun hj hn => hr.ext.keep _ hn (hlt hj)
  -- what is mapped and dead stays so
  have hstay : ∀ {j k}, j < ops.size → ρ (id + j) = some k → q ≤ j → ¬ Held ρ (s q).H k.b → ¬ Held ρ' (s (q + 1)).H k.b := fun hj hk _ hn hh => hn (hr.ext.new _ (h.ok.rel.lt _ _ hk) hh)
  have hmadeq : ∀ {j k}, j < ops.size → ρ (id + j) = some k → q ≤ j → ¬ Held ρ (s q).H k.b := by
    intro j k hj hk hqj
    have hmk : ∃ A f, Mk E ops s j A f := by
      apply Classical.byContradiction
      intro hn
      rw [h.unmade j hj (.inr hn)] at hk; cases hk
    obtain ⟨A, f, hmk⟩ := hmk
    have hlj : listed.getD j true = true := by
      cases hc : listed.getD j true with
      | true => rfl
      | false => rw [h.unmade j hj (.inl hc)] at hk; cases hk
    obtain ⟨k', hk', hx⟩ := h.made j A f hmk hlj
    rw [hk] at hk'; cases hk'
    exact (hx hqj).1
  refine ⟨fun i hi hwi => ?_, hq, h.ok.res hr, Nat.le_trans h.nxt hr.ext.nxt, fun j hj hjn => ?_, fun j A f hm hlj => ?_, fun j j' k k' hj hjn hj' hjn' hk hk' hb => ?_, fun j hj hlj => ?_, fun j A f hm hlj hj => ?_⟩
  · by_cases e : q = i
    · subst e
      have : q < listed.size := by omega
      simp [this]
    · rw [listed_ne e, h.wr i hi hwi]; omega
  · cases hk : ρ (id + j) with
    | none => rw [(hnone hjn hk).2]; exact h.dead j (by omega) hjn
    | some k =>
      have hn := hstay hjn hk (by omega) (hmadeq hjn hk (by omega))
      apply Classical.byContradiction
      intro hg
      exact hn ⟨id + j, k, hr.ext.le _ _ hk, rfl, hg⟩
  · have hjq : q ≠ j := fun e => hnm A f (e ▸ hm)
    rw [listed_ne hjq] at hlj
    have hm2 := hm
    obtain ⟨o, ho, _⟩ := hm2
    have hjn : j < ops.size := (Array.getElem?_eq_some_iff.1 ho).1
    obtain ⟨k, hk, hx⟩ := h.made j A f hm hlj
    refine ⟨k, hr.ext.le _ _ hk, fun hqj => ?_⟩
    obtain ⟨h1, ob, h2, h3⟩ := hx (by omega)
    exact ⟨hstay hjn hk (by omega) h1, ob, by rw [hr.fr.old _ (h.ok.rel.lt _ _ hk) h1]; exact h2, h3.mono hr.ext.le⟩
  · have back : ∀ {x y}, x < ops.size → ρ' (id + x) = some y → ρ (id + x) = some y := by
      intro x y hx hy
      cases hk : ρ (id + x) with
      | none => rw [(hnone hx hk).1] at hy; cases hy
      | some z => rw [hr.ext.le _ _ hk] at hy; exact hy
    exact h.apart j j' k k' (by omega) hjn (by omega) hjn' (back hjn hk) (back hjn' hk') hb
  · have hnj : ρ (id + j) = none := by
      refine h.unmade j hj ?_
      rcases hlj with hlj | hlj
      · exact .inl (listed_false hlj).1
      · exact .inr hlj
    exact (hnone hj hnj).1
  · have hm2 := hm
    obtain ⟨o, ho, _⟩ := hm2
    have hjn : j < ops.size := (Array.getElem?_eq_some_iff.1 ho).1
    have hlj' := (listed_false hlj).1
    have hjq : j ≠ q := fun e => hnm A f (e ▸ hm)
    rw [(hnone hjn (h.unmade j hjn (.inl hlj'))).2]
    exact h.kept j A f hm hlj' (by omega)

end

end Go.Gx

namespace Go.Gx
open Go

/- A reader of a drawn order. -/

theorem steadyAt_spec {E : Env} {ds : List DOp} {tm : Tr AV} {d : DOp} {i : Nat} {v : AV} : ∀ {l : List DOp} {ss : List DSt} {q0 : Nat}, steadyAt E ds tm d i v q0 l ss = true → ∀ (x : Nat) (s : DSt), ss[x]? = some s → x ≤ l.length →
    (x = l.length ∨ ∃ e, l[x]? = some e ∧ isW e.cl = true) → mayAt d.mask i (q0 + x) 0 ds = true → aread E tm s.H d.o.op = some v
  | [], [], _, h, x, s, hs, _, _, _ => by simp at hs
  | [], s0 :: ss, q0, h, x, s, hs, hx, _, hm => by
    have : x = 0 := by simpa using hx
    subst this
    simp only [List.getElem?_cons_zero, Option.some.injEq] at hs
    subst hs
    simp only [steadyAt, Bool.or_eq_true, Bool.not_eq_true'] at h
    rw [Nat.add_zero] at hm
    rcases h with h | h
    · rw [hm] at h; cases h
    · split at h
      · rename_i a ha
        rw [ha, aveq_eq h]
      · cases h
  | e :: l, [], q0, h, _, _, _, _, _, _ => by simp [steadyAt] at h
  | e :: l, s0 :: ss, q0, h, x, s, hs, hx, hw, hm => by
    simp only [steadyAt, Bool.and_eq_true, Bool.or_eq_true, Bool.not_eq_true'] at h
    cases x with
    | zero =>
      simp only [List.getElem?_cons_zero, Option.some.injEq] at hs
      subst hs
      rw [Nat.add_zero] at hm
      rcases hw with hw | ⟨e', he', hw⟩
      · simp at hw
      · simp only [List.getElem?_cons_zero, Option.some.injEq] at he'
        subst he'
        rcases h.1 with (h1 | h1) | h1
        · rw [hw] at h1; cases h1
        · rw [hm] at h1; cases h1
        · split at h1
          · rename_i a ha
            rw [ha, aveq_eq h1]
          · cases h1
    | succ x =>
      refine steadyAt_spec h.2 x s (by simpa using hs) (by simpa using hx) ?_ (by rw [show q0 + 1 + x = q0 + (x + 1) by omega]; exact hm)
      rcases hw with hw | ⟨e', he', hw⟩
      · exact .inl (by simpa using hw)
      · exact .inr ⟨e', by simpa using he', hw⟩

theorem mayAt_of {mask i q : Nat} : ∀ {l : List DOp} {j : Nat}, (∀ x e, l[x]? = some e → isW e.cl = true → (mask.testBit (j + x) = true → j + x < q) ∧ (e.mask.testBit i = true → q ≤ j + x)) → mayAt mask i q j l = true
  | [], _, _ => rfl
  | e :: l, j, h => by
    simp only [mayAt, Bool.and_eq_true, Bool.or_eq_true, Bool.not_eq_true']
    refine ⟨?_, mayAt_of fun x e' he' hw => by
      have := h (x + 1) e' (by simpa using he') hw
      rwa [show j + (x + 1) = j + 1 + x by omega] at this⟩
    cases hw : isW e.cl with
    | false => exact .inl rfl
    | true =>
      obtain ⟨h1, h2⟩ := h 0 e rfl hw
      rw [Nat.add_zero] at h1 h2
      refine .inr ⟨?_, ?_⟩
      · cases hb : mask.testBit j with
        | false => exact .inl rfl
        | true => exact .inr (Nat.ble_eq_true_of_le (h1 hb))
      · cases hb : e.mask.testBit i with
        | false => exact .inl rfl
        | true => exact .inr (Nat.ble_eq_true_of_le (h2 hb))

theorem steady_spec {E : Env} {all : List Oper} {ds : List DOp} {sts : List DSt} : ∀ {l : List DOp} {ss : List DSt} {i0 : Nat}, steady E all ds sts i0 l ss = true → ∀ (x : Nat) (d : DOp) (s : DSt), l[x]? = some d → ss[x]? = some s → d.cl = .read →
    awanted all (restr s.tm d.reads .nil) d.o = some true → ∃ v, aread E (restr s.tm d.reads .nil) s.H d.o.op = some v ∧ steadyAt E ds (restr s.tm d.reads .nil) d (i0 + x) v 0 ds sts = true
  | [], _, _, _, x, d, s, hd, _, _, _ => by simp at hd
  | _ :: _, [], _, h, _, _, _, _, hs, _, _ => by simp at hs
  | d0 :: l, s0 :: ss, i0, h, x, d, s, hd, hs, hc, hw => by
    simp only [steady, Bool.and_eq_true] at h
    cases x with
    | zero =>
      simp only [List.getElem?_cons_zero, Option.some.injEq] at hd hs
      subst hd hs
      have h1 := h.1
      simp only [hc, hw] at h1
      split at h1
      · rename_i v hv; exact ⟨v, hv, by simpa using h1⟩
      · cases h1
    | succ x =>
      obtain ⟨v, h1, h2⟩ := steady_spec h.2 x d s (by simpa using hd) (by simpa using hs) hc hw
      exact ⟨v, h1, by rw [show i0 + (x + 1) = i0 + 1 + x by omega]; exact h2⟩

end Go.Gx

namespace Go.Gx
open Go

/- From a region's start on. -/

/-- What has become of what was held at the region's start. -/
structure Far (B : Nat) (ρ0 : Ren) (H0 : St) (w0 : World) (ops : Array Oper) (id : Nat) (H : St) (ρ : Ren) (w : World) : Prop where
  le : Le ρ0 ρ
  nxt : H0.nxt ≤ H.nxt
  new : ∀ b, b < w0.heap.size → Held ρ H b → Held ρ0 H0 b
  keep : ∀ i, ρ0 i = none → i < H0.nxt → ρ i = none ∧ H.blk.get i = H0.blk.get i
  fr : Fr ρ0 H0 w0 w
  far : ∀ j k, j < ops.size → ρ (id + j) = some k → w0.heap.size ≤ k.b

theorem Far.res {B : Nat} {ρ0 ρ : Ren} {H0 H : St} {w0 w : World} {ops : Array Oper} {id : Nat} (h : Far B ρ0 H0 w0 ops id H ρ w) (hr : RelH B ρ H w) : Res B ρ0 H0 w0 ρ H w :=
  ⟨⟨h.le, h.nxt, h.new, h.keep⟩, h.fr, hr⟩

section
variable {E : Env} {ops : Array Oper} {self : List AFr → St → Option Out} {ntm id : Nat} {s : Nat → DSt} {v : Nat → AV} (hT : Trace E self ops.toList ops.toList ntm id s v) {B : Nat} {q : Nat} {ρ ρ0 : Ren} {H0 : St} {w w0 : World}
include hT

/-- Past an operation that writes nothing. -/
theorem Far.pass (h : Far B ρ0 H0 w0 ops id (s q).H ρ w) (hid : H0.nxt ≤ id) (hq : q < ops.size) (hw : isWr E ops q = false) : Far B ρ0 H0 w0 ops id (s (q + 1)).H ρ w := by
  by_cases hm : ∃ A f, Mk E ops s q A f
  · obtain ⟨A, f, hm⟩ := hm
    obtain ⟨hH, _⟩ := mk_step hT hm
    have hneq : ∀ {i}, i ≠ id + q → (s (q + 1)).H.blk.get i = (s q).H.blk.get i := by
      intro i hi; rw [hH]; exact Tr.get_set_ne _ _ _ hi
    refine ⟨h.le, by rw [hH]; exact h.nxt, fun b hb hh => ?_, fun i hi hlt => ?_, h.fr, h.far⟩
    · obtain ⟨i, k, hk, hkb, hg⟩ := hh
      by_cases e : i = id + q
      · subst e
        have := h.far q k hq hk
        omega
      · rw [hneq e] at hg
        exact h.new b hb ⟨i, k, hk, hkb, hg⟩
    · rw [hneq (by omega)]; exact h.keep i hi hlt
  · rw [quiet_step hT hq hw hm]; exact h

/-- Up to the next writer. -/
theorem Far.settle {listed : Array Bool} (h : Mid E ops id s B listed q ρ w) (hf : Far B ρ0 H0 w0 ops id (s q).H ρ w) (hid : H0.nxt ≤ id) :
    ∃ q', q ≤ q' ∧ Mid E ops id s B listed q' ρ w ∧ Far B ρ0 H0 w0 ops id (s q').H ρ w ∧ (q' = ops.size ∨ isWr E ops q' = true) := by
  obtain ⟨n, hn⟩ : ∃ n, n = ops.size - q := ⟨_, rfl⟩
  induction n generalizing q with
  | zero => exact ⟨q, Nat.le_refl _, h, hf, .inl (by have := h.qle; omega)⟩
  | succ n ih =>
    cases hw : isWr E ops q with
    | true => exact ⟨q, Nat.le_refl _, h, hf, .inr hw⟩
    | false =>
      obtain ⟨q', h1, h2, h3, h4⟩ := ih (h.pass hT (by omega) hw) (hf.pass hT hid (by omega) hw) (by omega)
      exact ⟨q', by omega, h2, h3, h4⟩

end

end Go.Gx

namespace Go.Gx
open Go

section
variable {B : Nat} {ρ0 ρ ρ' : Ren} {H0 H H' : St} {w0 w w' : World} {ops : Array Oper} {id : Nat}

theorem Far.write (h : Far B ρ0 H0 w0 ops id H ρ w) (hn : id + ops.size ≤ H.nxt) (hr : Res B ρ H w ρ' H' w') : Far B ρ0 H0 w0 ops id H' ρ' w' := by
  refine ⟨h.le.trans hr.ext.le, Nat.le_trans h.nxt hr.ext.nxt, fun b hb hh => h.new b hb (hr.ext.new b (Nat.lt_of_lt_of_le hb h.fr.size) hh), fun i hi hlt => ?_, ⟨Nat.le_trans h.fr.size hr.fr.size, fun b hb hnh => ?_, hr.fr.tape.trans h.fr.tape, hr.fr.os.trans h.fr.os, hr.fr.output.trans h.fr.output⟩, fun j k hj hk => ?_⟩
  · obtain ⟨h1, h2⟩ := h.keep i hi hlt
    obtain ⟨g1, g2⟩ := hr.ext.keep i h1 (Nat.lt_of_lt_of_le hlt h.nxt)
    exact ⟨g1, g2.trans h2⟩
  · rw [hr.fr.old b (Nat.lt_of_lt_of_le hb h.fr.size) fun hh => hnh (h.new b hb hh), h.fr.old b hb hnh]
  · cases hc : ρ (id + j) with
    | none => rw [(hr.ext.keep _ hc (by omega)).1] at hk; cases hk
    | some k' => rw [hr.ext.le _ _ hc] at hk; cases hk; exact h.far j _ hj hc

theorem Far.makes (h : Far B ρ0 H0 w0 ops id H ρ w) (hid : H0.nxt ≤ id) {i tot : Nat} (hn : ρ (id + i) = none) (ob : Obj) : Far B ρ0 H0 w0 ops id H (ρ.add (id + i) ⟨w.heap.size, tot⟩) { w with heap := w.heap.push ob } := by
  refine ⟨h.le.trans (Ren.le_add _ hn), h.nxt, fun b hb hh => ?_, fun j hj hlt => ?_, ⟨by have := h.fr.size; simp; omega, fun b hb hnh => ?_, h.fr.tape, h.fr.os, h.fr.output⟩, fun j k hj hk => ?_⟩
  · obtain ⟨x, k, hk, hkb, hg⟩ := hh
    rcases Ren.add_cases hk with ⟨_, rfl⟩ | ⟨_, hk⟩
    · have := h.fr.size; simp only at hkb; omega
    · exact h.new b hb ⟨x, k, hk, hkb, hg⟩
  · rw [Ren.add_ne _ _ (by omega)]; exact h.keep j hj hlt
  · rw [← h.fr.old b hb hnh]; exact getElem?_push_lt _ _ (Nat.lt_of_lt_of_le hb h.fr.size)
  · rcases Ren.add_cases hk with ⟨_, rfl⟩ | ⟨_, hk⟩
    · exact h.fr.size
    · exact h.far j k hj hk

end

end Go.Gx

namespace Go.Gx
open Go

/- One operation of a drawn order, and all of them. -/

section
variable {ops : Array Oper} {mask : Nat → Nat} {E : Env} (hS : Static E ops mask) {listed : Array Bool} (hC : Closed ops mask listed)
include hS hC

theorem Closed.set {i : Nat} {o : Oper} (ho : ops[i]? = some o) (hready : ∀ e ∈ o.after, Region.binds .any e = true → listed.getD e.on false = true) : Closed ops mask (listed.setIfInBounds i true) := by
  have mono : ∀ {j}, listed.getD j true = true → (listed.setIfInBounds i true).getD j true = true := by
    intro j hj
    by_cases e : i = j
    · subst e
      cases hc : (listed.setIfInBounds i true).getD i true with
      | true => rfl
      | false => exact absurd rfl (listed_false hc).2
    · rw [listed_ne e]; exact hj
  intro j hj hl b hb
  by_cases e : i = j
  · subst e
    obtain ⟨x, hx, hbx, hor⟩ := (hS.bits i o ho b).1 hb
    have hlt := hS.edge i o ho x hx hbx
    have hil : i < ops.size := (Array.getElem?_eq_some_iff.1 ho).1
    have hon := hready x hx hbx
    have hon' : listed.getD x.on true = true := by
      rw [Array.getD_eq_getD_getElem?] at hon ⊢
      cases hc : listed[x.on]? with
      | none => rfl
      | some b => rw [hc] at hon; exact hon
    rcases hor with rfl | hor
    · exact mono hon'
    · exact mono (hC x.on (by omega) hon' b hor)
  · rw [listed_ne e] at hl
    exact mono (hC j hj hl b hb)

theorem Slots.put {v : Nat → AV} {t0 : Tr AV} {ntm : Nat} {ρ ρ' : Ren} {vs : Array Value} (h : Slots ops v t0 ntm listed ρ vs) (hle : Le ρ ρ') {i : Nat} {o : Oper} (ho : ops[i]? = some o) (hi : listed.getD i true = false)
    {val : Value} (hv : Rv ρ' (v i) val) (hd : ∀ d, o.dst = some d → d < ntm) : Slots ops v t0 ntm (listed.setIfInBounds i true) ρ' (putV vs o.dst val) := by
  have hil : i < ops.size := (Array.getElem?_eq_some_iff.1 ho).1
  have hget : ∀ {j t}, j < ops.size → dstOf ops.toList j = some t → ∃ p, ops[j]? = some p ∧ p.dst = some t := by
    intro j t hj hd
    refine ⟨ops[j], Array.getElem?_eq_getElem hj, ?_⟩
    unfold dstOf at hd
    simpa [hj] using hd
  have hdi : dstOf ops.toList i = o.dst := by unfold dstOf; simp [ho]
  have hself : (listed.setIfInBounds i true).getD i true = true := by
    cases hc : (listed.setIfInBounds i true).getD i true with
    | true => rfl
    | false => exact absurd rfl (listed_false hc).2
  refine ⟨by unfold putV; split <;> simpa using h.1, fun t a ha => ?_⟩
  by_cases hdt : o.dst = some t
  · rw [tget_at (i := i) hil hself (by rw [hdi]; exact hdt) fun j h1 h2 h3 => ?_] at ha
    · cases ha
      have hlt := hd t hdt
      refine ⟨hlt, val, ?_, hv⟩
      unfold putV
      rw [hdt]
      simp only
      rw [Array.getElem?_setIfInBounds_self_of_lt (Nat.lt_of_lt_of_le hlt h.1)]
    · obtain ⟨p, hp, hpd⟩ := hget h2 h3
      rw [listed_ne (Nat.ne_of_lt h1)]
      cases hc : listed.getD j true with
      | false => rfl
      | true =>
        have hl := (loose_spec (after_ok hS hC ho hp h1 hc hi)).2.2.1
        exact absurd (by show t ∈ (dop E ops.toList p (mask j)).o.dst.toList; simp [dop, hpd]) (hasDst_not hl hdt)
  · rw [tget_same (T := fun i => listed.getD i true) fun j h1 h2 => ?_] at ha
    · obtain ⟨h1, v', h2, h3⟩ := h.2 t a ha
      refine ⟨h1, v', ?_, h3.mono hle⟩
      unfold putV
      split
      · rename_i d hd'
        rw [Array.getElem?_setIfInBounds_ne (by intro e; subst e; exact hdt hd')]; exact h2
      · exact h2
    · refine listed_ne fun e => hdt ?_
      subst e; rw [← hdi]; exact h2

end

theorem Slots.mono {ops : Array Oper} {v : Nat → AV} {t0 : Tr AV} {ntm : Nat} {listed : Array Bool} {ρ ρ' : Ren} {vs : Array Value} (h : Slots ops v t0 ntm listed ρ vs) (hle : Le ρ ρ') : Slots ops v t0 ntm listed ρ' vs :=
  ⟨h.1, fun t a ha => let ⟨h1, val, h2, h3⟩ := h.2 t a ha; ⟨h1, val, h2, h3.mono hle⟩⟩

theorem draw_writer {E : Env} {ops : Array Oper} {mask : Nat → Nat} (hS : Static E ops mask) {listed : Array Bool} (hC : Closed ops mask listed) {i : Nat} {o : Oper} (ho : ops[i]? = some o) (hi : listed.getD i true = false)
    (hready : ∀ e ∈ o.after, Region.binds .any e = true → listed.getD e.on false = true) {id : Nat} {s : Nat → DSt} {B q : Nat} {ρ : Ren} {w : World} (hM : Mid E ops id s B listed q ρ w) (hq : q = ops.size ∨ isWr E ops q = true)
    (hw : isWr E ops i = true) : i = q := by
  have hil : i < ops.size := (Array.getElem?_eq_some_iff.1 ho).1
  have hge : q ≤ i := by
    apply Classical.byContradiction
    intro hn
    have := (hM.wr i hil hw).2 (by omega)
    rw [hi] at this; cases this
  apply Classical.byContradiction
  intro hne
  have hlt : q < i := by omega
  rcases hq with hq | hq
  · omega
  have hqn : q < ops.size := by omega
  have hoq : ops[q]? = some ops[q] := Array.getElem?_eq_getElem hqn
  rcases before_ok hS hC ho hoq hlt hready with h | h
  · have := (hM.wr q hqn hq).1 h; omega
  · have h1 := (loose_spec h).1
    unfold isWr at hw hq
    rw [ho] at hw
    rw [hoq] at hq
    simp only at hw hq
    simp only [dop, hw, hq] at h1
    cases h1

section
variable {E : Env} (hE : E.Ok) {B : Nat} (hX : Exts E B) {self : List AFr → St → Option Out} (hs : Good E B self)
  {ops : Array Oper} {mask : Nat → Nat} (hS : Static E ops mask) {ntm id : Nat} {s : Nat → DSt} {v : Nat → AV} (hT : Trace E self ops.toList ops.toList ntm id s v)
  {sts : List DSt} (hst : ∀ i, i ≤ ops.size → sts[i]? = some (s i)) (hsteady : steady E ops.toList (drawDs E ops) sts 0 (drawDs E ops) sts = true)
  {listed : Array Bool} (hC : Closed ops mask listed) (hsz : listed.size = ops.size) {q : Nat} {ρ ρ0 : Ren} {H0 : St} {w w0 : World}
  {i : Nat} {o : Oper} (ho : ops[i]? = some o) (hi : listed.getD i true = false) (hready : ∀ e ∈ o.after, Region.binds .any e = true → listed.getD e.on false = true)
  {fr : Frame} (hsl : Slots ops v (s 0).tm ntm listed ρ fr.tmps) (hM : Mid E ops id s B listed q ρ w) (hq : q = ops.size ∨ isWr E ops q = true)
  (hF : Far B ρ0 H0 w0 ops id (s q).H ρ w) (hid : H0.nxt ≤ id)
include hE hX hs hS hT hst hsteady hC hsz ho hi hready hsl hM hq hF hid

/-- One operation: what it does to all. -/
theorem draw_one {all : List Frame} {rest : List Nat} {k' : List Item} (hm : fr.mode = .run) (htodo : fr.todo = .inRegion ops (i :: rest) :: k') (hnc : ∀ d b x y k, fr.todo ≠ .call d b x y :: k) :
    ∃ ρ' w' q' val, Steps E.P (lone fr all w) (lone (fr.finish val) all w') ∧ Le ρ ρ' ∧ Rv ρ' (v i) val ∧ Mid E ops id s B (listed.setIfInBounds i true) q' ρ' w' ∧ Far B ρ0 H0 w0 ops id (s q').H ρ' w' := by
  have hil : i < ops.size := (Array.getElem?_eq_some_iff.1 ho).1
  have hol : ops.toList[i]? = some o := by simpa using ho
  have hev := slots_eval hS hC hT ho hready hi hsl
  have hval := hT.val i o hol
  unfold dval dvalAt at hval
  simp only at hval
  have hrun : EvR ρ (restr (s i).tm (looksAt ops.toList o) .nil) fr.eval := EvR.of_tmps hev (fun _ => rfl) (fun _ => rfl) (fun _ => rfl) (fun _ => rfl)
  split at hval
  · cases hval
  · -- not wanted
    rename_i hwant
    simp only [Option.some.injEq, Prod.mk.injEq] at hval
    have hw := wanted_ok hwant hev
    have hnm : ¬ ∃ A f, Mk E ops s i A f := by
      rintro ⟨A, f, o', h1, _, h3, _⟩
      rw [ho] at h1; cases h1
      rw [hwant] at h3; cases h3
    cases hwr : isWr E ops i with
    | false =>
      exact ⟨ρ, w, q, undef, .one (step_unwanted hm htodo ho hw), .refl _, by rw [← hval.1]; exact undef_rv ρ, hM.quiet hwr hnm, hF⟩
    | true =>
      have hiq : i = q := draw_writer (mask := mask) hS hC ho hi hready hM hq hwr
      subst hiq
      have hres : Res B ρ (s i).H w ρ (s (i + 1)).H w := by rw [← hval.2]; exact .refl hM.ok.rel
      exact ⟨ρ, w, i + 1, undef, .one (step_unwanted hm htodo ho hw), .refl _, by rw [← hval.1]; exact undef_rv ρ, hM.write hil hwr hsz hres, hF.write hM.nxt hres⟩
  · rename_i hwant
    have hw := wanted_ok hwant hev
    have hnd : ∀ {c}, cls E o.op = c → c ≠ .call → ∀ c, o.op ≠ .defer c := by
      intro c hc hne c' e
      apply hne
      rw [← hc, e]; rfl
    split at hval
    · -- pure
      rename_i hcls
      split at hval
      case h_2 => cases hval
      rename_i a ha
      simp only [Option.some.injEq, Prod.mk.injEq] at hval
      obtain ⟨val, h1, h2⟩ := apure_ok hE hrun ha o rfl (w := w)
      have hnm : ¬ ∃ A f, Mk E ops s i A f := by
        rintro ⟨A, f, o', g1, g2, _⟩
        rw [ho] at g1; cases g1
        rw [hcls] at g2; cases g2
      have hwr : isWr E ops i = false := by unfold isWr; rw [ho]; simp only [hcls]; rfl
      exact ⟨ρ, w, q, val, .one ((Doing.op hm htodo ho hw (.inr (hnd hcls (by simp)))).value h1), .refl _, by rw [← hval.1]; exact h2, hM.quiet hwr hnm, hF⟩
    · -- read
      rename_i hcls
      split at hval
      case h_2 => cases hval
      rename_i a ha
      simp only [Option.some.injEq, Prod.mk.injEq] at hval
      have hnm : ¬ ∃ A f, Mk E ops s i A f := by
        rintro ⟨A, f, o', g1, g2, _⟩
        rw [ho] at g1; cases g1
        rw [hcls] at g2; cases g2
      have hwr : isWr E ops i = false := by unfold isWr; rw [ho]; simp only [hcls]; rfl
      have hdi := hS.ds i o ho
      obtain ⟨a', g1, g2⟩ := steady_spec hsteady i _ _ hdi (hst i (Nat.le_of_lt hil)) hcls hwant
      have haa : a' = a := by
        have g1' : aread E (restr (s i).tm (looksAt ops.toList o) .nil) (s i).H o.op = some a' := g1
        rw [ha] at g1'; cases g1'; rfl
      subst haa
      rw [Nat.zero_add] at g2
      have hlen := hS.len
      have hlistq : ∀ j, j < ops.size → listed.getD j true = true → isWr E ops j = true → j < q := fun j hj hl hwj => (hM.wr j hj hwj).1 hl
      have hwof : ∀ {x e}, (drawDs E ops)[x]? = some e → isW e.cl = true → x < ops.size ∧ isWr E ops x = true ∧ e.mask = mask x := by
        intro x e hx hwe
        have hxl : x < ops.size := by rw [← hlen]; exact (List.getElem?_eq_some_iff.1 hx).1
        have := hS.ds x _ (Array.getElem?_eq_getElem hxl)
        rw [hx] at this; cases this
        refine ⟨hxl, ?_, rfl⟩
        unfold isWr
        rw [Array.getElem?_eq_getElem hxl]
        exact hwe
      have hq2 : aread E (restr (s i).tm (looksAt ops.toList o) .nil) (s q).H o.op = some a' := by
        refine steadyAt_spec g2 q (s q) (hst q hM.qle) (by rw [hlen]; exact hM.qle) ?_ ?_
        · rcases hq with hq | hq
          · exact .inl (by rw [hlen]; exact hq)
          · refine .inr ?_
            have hqn : q < ops.size := by
              apply Classical.byContradiction
              intro hn
              unfold isWr at hq
              rw [Array.getElem?_eq_none (by omega)] at hq; cases hq
            refine ⟨_, hS.ds q _ (Array.getElem?_eq_getElem hqn), ?_⟩
            unfold isWr at hq
            rw [Array.getElem?_eq_getElem hqn] at hq
            exact hq
        · rw [Nat.zero_add]
          refine mayAt_of fun x e hx hwe => ?_
          obtain ⟨h1, h2, h3⟩ := hwof hx hwe
          rw [Nat.zero_add]
          refine ⟨fun hb => ?_, fun hb => ?_⟩
          · have hb' : (mask i).testBit x = true := hb
            have hxi : x < i := bit_lt (hS.lt i o ho) hb'
            refine hlistq x h1 ?_ h2
            obtain ⟨e', he', hbe, hor⟩ := (hS.bits i o ho x).1 hb'
            have hon := hready e' he' hbe
            have hon' : listed.getD e'.on true = true := by
              rw [Array.getD_eq_getD_getElem?] at hon ⊢
              cases hc : listed[e'.on]? with
              | none => rfl
              | some b => rw [hc] at hon; exact hon
            have hlt := hS.edge i o ho e' he' hbe
            rcases hor with rfl | hor
            · exact hon'
            · exact hC e'.on (by omega) hon' x hor
          · apply Classical.byContradiction
            intro hn
            have hlx := (hM.wr x h1 h2).2 (by omega)
            rw [h3] at hb
            have := hC x h1 hlx i hb
            rw [hi] at this; cases this
      obtain ⟨val, h1, h2⟩ := aread_ok hE hM.ok.rel hM.ok.glo hrun hq2 o rfl
      exact ⟨ρ, w, q, val, .one ((Doing.op hm htodo ho hw (.inr (hnd hcls (by simp)))).value h1), .refl _, by rw [← hval.1]; exact h2, hM.quiet hwr hnm, hF⟩
    · -- make
      rename_i hcls
      split at hval
      case h_2 => cases hval
      rename_i A f hmk
      simp only [Tr.setK_eq, Option.some.injEq, Prod.mk.injEq] at hval
      have hMk : Mk E ops s i A f := ⟨o, ho, hcls, hwant, hmk⟩
      have hwr : isWr E ops i = false := by unfold isWr; rw [ho]; simp only [hcls]; rfl
      obtain ⟨ob, tot, val, h1, h2, h3⟩ := amk_ok hE hrun hmk o rfl
      have hnone := hM.unmade i hil (.inl hi)
      obtain ⟨g1, g2⟩ := hM.makes hi hMk hwr h1
      refine ⟨_, _, q, val w.heap.size, .one ((Doing.op hm htodo ho hw (.inr (hnd hcls (by simp)))).value (h2 w)), g1, ?_, g2, hF.makes hid hnone ob⟩
      rw [← hval.1]
      exact h3 _ _ ⟨w.heap.size, tot⟩ (Ren.add_same _ _ _) rfl
    · -- write
      rename_i hcls
      have hwr : isWr E ops i = true := by unfold isWr; rw [ho]; simp only [hcls]; rfl
      have hiq : i = q := draw_writer (mask := mask) hS hC ho hi hready hM hq hwr
      subst hiq
      obtain ⟨a, H', n, val, ρ', w', g1, g2, g3, g4, g5⟩ := awrite_ok hE hM.ok.rel hrun hM.ok.le hval o rfl
      simp only [Option.some.injEq, Prod.mk.injEq] at g1
      obtain ⟨rfl, rfl⟩ := g1
      have hd := Doing.op (P := E.P) (cs := all) (w := w) hm htodo ho hw (.inr (hnd hcls (by simp)))
      have hstep : step E.P (lone fr all w) = .next (lone (fr.finish val) all w') := by
        rcases g3 with rfl | ⟨rfl, rfl⟩
        · exact hd.value g2
        · exact hd.skip g2
      exact ⟨ρ', w', i + 1, val, .one hstep, g5.ext.le, g4, hM.write hil hwr hsz g5, hF.write hM.nxt g5⟩
    · -- call
      rename_i hcls
      have hwr : isWr E ops i = true := by unfold isWr; rw [ho]; simp only [hcls]; rfl
      have hiq : i = q := draw_writer (mask := mask) hS hC ho hi hready hM hq hwr
      subst hiq
      split at hval
      case h_2 => cases hval
      rename_i c hop
      have hd := Doing.op (P := E.P) (cs := all) (w := w) hm htodo ho hw (.inr (by rw [hop]; intro c' e; cases e))
      unfold acallIn at hval
      split at hval
      case h_2 => cases hval
      rename_i g first cap args hc
      obtain ⟨f, hf', hv, ha⟩ := ofCallee hrun hc
      generalize hvv : fr.eval f = vv at hv
      cases hv with
      | fn h1 h2 =>
        rename_i cv dv
        have hargs : RvL ρ (first ++ args ++ cap) (cv ++ c.args.map fr.eval ++ dv).toList := by
          simp only [Array.toList_append]; exact (h1.append ha).append h2
        have hcall : ∀ u, (execOp fr.eval o).run E.P u = (callFunc g (cv ++ c.args.map fr.eval ++ dv)).run E.P u := by
          intro u
          simp [execOp, hop, resolve, hf', hvv, Deferred.ofValue, invoke]
        split at hval
        · obtain ⟨a, H', val, ρ', w', g1, g2, g3, g4⟩ := aextern_ok hX hM.ok (fr :: all) hval hargs
          simp only [Option.some.injEq, Prod.mk.injEq] at g1
          obtain ⟨rfl, rfl⟩ := g1
          exact ⟨ρ', w', i + 1, val, hd.ends hcall g2 hnc, g4.ext.le, g3, hM.write hil hwr hsz g4, hF.write hM.nxt g4⟩
        · obtain ⟨c', g1, g2, g3⟩ := aenter_ok hE (kind := .normal) hval hargs
          split at g1
          case h_2 => cases g1
          rename_i a H' hself
          simp only [Option.some.injEq, Prod.mk.injEq] at g1
          obtain ⟨rfl, rfl⟩ := g1
          obtain ⟨ρ', w', cf, val, q1, q2, q3, q4, q5⟩ := hs _ _ _ hself ρ w [Frame.enter E.P g (cv ++ c.args.map fr.eval ++ dv) .normal] (fr :: all) (.cons g2 .nil) hM.ok
          refine ⟨ρ', w', i + 1, val, ?_, q5.ext.le, q4, hM.write hil hwr hsz q5, hF.write hM.nxt q5⟩
          exact .head (hd.enter (by rw [hcall]; exact g3 w) hnc) (Steps.trans q1 (.one (step_leave_returned q2)))

end

end Go.Gx

namespace Go.Gx
open Go

/- A region whose order is drawn. -/

section
variable {E : Env} (hE : E.Ok) {B : Nat} (hX : Exts E B) {self : List AFr → St → Option Out} (hs : Good E B self)
  {ops : Array Oper} {mask : Nat → Nat} (hS : Static E ops mask) {ntm id : Nat} {s : Nat → DSt} {v : Nat → AV} (hT : Trace E self ops.toList ops.toList ntm id s v)
  {sts : List DSt} (hst : ∀ i, i ≤ ops.size → sts[i]? = some (s i)) (hsteady : steady E ops.toList (drawDs E ops) sts 0 (drawDs E ops) sts = true)
  {ρ0 : Ren} {H0 : St} {w0 : World} (hid : H0.nxt ≤ id) {fn : FuncId} {ds : List ADf} {kd : CallKind} {rnd : Option Nat} {fs : List AFr} {k : List AIt} {r : Out}
  (h : self (⟨fn, ntm, (s ops.size).tm, k, ds, .run, kd, rnd⟩ :: fs) (s ops.size).H = some r)
include hE hX hs hS hT hst hsteady hid h

theorem draw_all {cs : List Frame} : ∀ {rest : List Nat} {listed : Array Bool}, Sched ops listed rest → Closed ops mask listed → listed.size = ops.size → ∀ {q : Nat} {ρ : Ren} {w : World} {fr : Frame} {frs : List Frame} {k' : List Item},
    Slots ops v (s 0).tm ntm listed ρ fr.tmps → Mid E ops id s B listed q ρ w → Far B ρ0 H0 w0 ops id (s q).H ρ w → fr.fn = fn → fr.todo = .inRegion ops rest :: k' → RelIts ρ k k' → RelDfs ρ ds fr.defers → fr.mode = .run →
    fr.kind = kd → RelRd ρ rnd fr.roundOf → RelS ρ fs frs → GoalM E B ρ0 H0 w0 (lone fr (frs ++ cs) w) cs (base (⟨fn, ntm, (s ops.size).tm, k, ds, .run, kd, rnd⟩ :: fs)) r
  | [], listed, hsch, hC, hsz, q, ρ, w, fr, frs, k', hsl, hM, hF, hfn, htodo, hk, hds, hm, hkd, hrd, hfs => by
    cases hsch with
    | done hall =>
      obtain ⟨q', _, hM', hF', hq'⟩ := Far.settle hT hM hF hid
      have hqn : q' = ops.size := by
        rcases hq' with hq' | hq'
        · exact hq'
        · exfalso
          have hlt : q' < ops.size := by
            apply Classical.byContradiction
            intro hn
            unfold isWr at hq'
            rw [Array.getElem?_eq_none (by omega)] at hq'; cases hq'
          have := (hM'.wr q' hlt hq').1 (hall q' hlt)
          omega
      subst hqn
      have htm : RvT ρ (s ops.size).tm ntm fr.tmps := by
        refine ⟨hsl.1, fun t a ha => ?_⟩
        rw [hT.slots ops.size (by simp) t] at ha
        rw [tget_same (T := fun i => listed.getD i true) fun j hj _ => (hall j hj).symm] at ha
        exact hsl.2 t a ha
      have hgo := hs _ _ _ h ρ w ({ fr with todo := k' } :: frs) cs (.cons ⟨hfn, htm, hk, hds, by show RelMd ρ .run fr.mode; rw [hm]; exact .run, hkd, hrd⟩ hfs) hM'.ok
      exact GoalM.of (frs' := { fr with todo := k' } :: frs) (.one (step_regionEnd hm htodo)) (hF'.res hM'.ok.rel) hgo
  | i :: rest, listed, hsch, hC, hsz, q, ρ, w, fr, frs, k', hsl, hM, hF, hfn, htodo, hk, hds, hm, hkd, hrd, hfs => by
    cases hsch with
    | step hi ho hready hsch =>
      rename_i o
      obtain ⟨q', _, hM', hF', hq'⟩ := Far.settle hT hM hF hid
      have hnc : ∀ d b x y k, fr.todo ≠ .call d b x y :: k := by intro d b x y k e; rw [htodo] at e; cases e
      obtain ⟨ρ', w', q2, val, g1, g2, g3, g4, g5⟩ := draw_one hE hX hs hS hT hst hsteady hC hsz ho hi hready hsl hM' hq' hF' hid (all := frs ++ cs) hm htodo hnc
      have hdst : ∀ d, o.dst = some d → d < ntm := (aput_some (hT.put i o (by simpa using ho))).1
      have hfin : fr.finish val = { fr with tmps := putV fr.tmps o.dst val, todo := .inRegion ops rest :: k' } := by
        unfold Frame.finish putV
        simp only [htodo, ho, Option.bind_some]
        rfl
      rw [hfin] at g1
      obtain ⟨ρ'', w'', cf, vv, q1, q2, q3, q4, q5⟩ := draw_all hsch (Closed.set hS hC ho hready) (by simpa using hsz) (fr := { fr with tmps := putV fr.tmps o.dst val, todo := .inRegion ops rest :: k' }) (frs := frs) (k' := k')
        (Slots.put hS hC hsl g2 ho hi g3 hdst) g4 g5 hfn rfl (hk.mono g2) (hds.mono g2) hm hkd (hrd.mono g2) (hfs.mono g2)
      exact ⟨ρ'', w'', cf, vv, g1.trans q1, q2, q3, q4, q5⟩

end

theorem draw_ok {E : Env} (hE : E.Ok) (hmix : E.P.follows .mixedOrders = true) {B : Nat} (hX : Exts E B) {self : List AFr → St → Option Out} (hs : Good E B self) : DrawOk E B self := by
  intro fn ntm tm ds kd rnd fs rid ops k H r ρ w fr frs cs h hf hfs hK
  unfold adraw at h
  split at h
  · cases h
  rename_i hok
  split at h
  · cases h
  rename_i sts e hrun
  split at h
  case h_2 => cases h
  rename_i hsteady
  obtain ⟨mask, hS⟩ := static_of hok
  obtain ⟨s, v, h0, he, hst, hT⟩ := drun_trace hrun
  have hlen : ops.toList.length = ops.size := by simp
  rw [hlen] at he hst
  have hm : fr.mode = .run := by
    have := hf.mode
    generalize fr.mode = md at this
    cases this; rfl
  obtain ⟨k', htd, hk⟩ : ∃ k', fr.todo = .code (.region rid ops true) :: k' ∧ RelIts ρ k k' := by
    have := hf.todo
    generalize fr.todo = td at this
    cases this with
    | cons e r => cases e with
      | code c => exact ⟨_, rfl, r⟩
  have hfresh : ∀ j, ρ (H.nxt + j) = none := by
    intro j
    cases hc : ρ (H.nxt + j) with
    | none => rfl
    | some k => have := hK.rel.fresh _ _ hc; omega
  have hdead : ∀ j, H.blk.get (H.nxt + j) = none := by
    intro j
    cases hc : H.blk.get (H.nxt + j) with
    | none => rfl
    | some k => have := hK.rel.live (H.nxt + j) (by rw [hc]; simp); omega
  -- the draw
  obtain ⟨t, n, hch⟩ : ∃ t n, (choose (.order fr.fn rid)).run E.P w = .ok t { w with drawn := n } := by
    rw [run_choose]
    split
    · exact ⟨0, w.drawn, rfl⟩
    · exact ⟨_, _, rfl⟩
  have hd := hK.rel.drew n
  have hKd := hK.res hd
  have hstep : step E.P (lone fr (frs ++ cs) w) = .next (lone { fr with todo := .inRegion ops (Region.schedule true ops t) :: k' } (frs ++ cs) { w with drawn := n }) := by
    refine step_lone_go ?_
    simp only [stepG, hm, stepG.exec, htd, hch, hmix]
    rfl
  obtain ⟨w1, hw1⟩ : ∃ w1 : World, w1 = { w with drawn := n } := ⟨_, rfl⟩
  rw [← hw1] at hd hKd hstep
  have hH0 : (s 0).H = ⟨H.blk, H.nxt + ops.size⟩ := by rw [h0, hlen]
  have hM : Mid E ops H.nxt s B (Array.replicate ops.size false) 0 ρ w1 := by
    have hfalse : ∀ j, j < ops.size → (Array.replicate ops.size false).getD j true = false := by intro j hj; simp [hj]
    have hmk : ∀ {j A f}, Mk E ops s j A f → j < ops.size := by
      rintro j A f ⟨o, ho, _⟩
      exact (Array.getElem?_eq_some_iff.1 ho).1
    refine ⟨fun i hi _ => ?_, Nat.zero_le _, ⟨⟨fun i k hi => ?_, hKd.rel.base, hKd.rel.lt, ?_, ?_, ?_⟩, hKd.glo, hKd.le⟩, by rw [hH0]; exact Nat.le_refl _, fun j _ _ => by rw [hH0]; exact hdead j, fun j A f hm' hl => ?_, fun j j' k k' _ _ _ _ hk _ _ => ?_, fun j _ _ => hfresh j, fun j A f _ _ hj => by omega⟩
    · rw [hfalse i hi]; simp
    · rw [hH0]; have := hKd.rel.fresh i k hi; simp only; omega
    · rw [hH0]; exact hKd.rel.inj
    · rw [hH0]; intro i hi; have := hKd.rel.live i hi; simp only; omega
    · rw [hH0]; exact hKd.rel.blk
    · rw [hfalse j (hmk hm')] at hl; cases hl
    · rw [hfresh j] at hk; cases hk
  have hF : Far B ρ H w1 ops H.nxt (s 0).H ρ w1 := by
    refine ⟨.refl _, by rw [hH0]; exact Nat.le_add_right _ _, fun b _ hh => ?_, fun i hi _ => ⟨hi, by rw [hH0]⟩, ⟨Nat.le_refl _, fun _ _ _ => rfl, rfl, rfl, rfl⟩, fun j k _ hk => ?_⟩
    · rw [hH0] at hh; exact hh
    · rw [hfresh j] at hk; cases hk
  have hC : Closed ops mask (Array.replicate ops.size false) := by
    intro i hi hl
    simp [hi] at hl
  have hsl : Slots ops v (s 0).tm ntm (Array.replicate ops.size false) ρ fr.tmps := by
    refine ⟨hf.tmps.1, fun t a ha => ?_⟩
    rw [tget_skip (i := 0) (Nat.zero_le _) fun j _ hj _ => by simp [hj]] at ha
    have ha' : tm.get t = some a := by rw [h0] at ha; exact ha
    exact hf.tmps.2 t a ha'
  have hself : self (⟨fn, ntm, (s ops.size).tm, k, ds, .run, kd, rnd⟩ :: fs) (s ops.size).H = some r := by rw [he]; exact h
  have := draw_all hE hX hs hS hT hst hsteady (Nat.le_refl H.nxt) hself (cs := cs) (ρ0 := ρ) (H0 := H) (w0 := w1) (sched_schedule hS.edge t) hC (by simp)
    (fr := { fr with todo := .inRegion ops (Region.schedule true ops t) :: k' }) (frs := frs) (k' := k') hsl hM hF hf.fn rfl hk hf.defers hm hf.kind hf.rnd hfs
  obtain ⟨ρ', w', cf, vv, q1, q2, q3, q4, q5⟩ := this
  refine ⟨ρ', w', cf, vv, .head hstep q1, q2, ?_, q4, hd.trans q5⟩
  rw [q3]
  exact base_cons _ _ _ rfl

/-- The machine, whole. -/
theorem arun_all {E : Env} (hE : E.Ok) (hmix : E.P.follows .mixedOrders = true) {B : Nat} (hX : Exts E B) (n : Nat) : Good E B (arun E n) :=
  arun_good hE hX (fun _ hs => draw_ok hE hmix hX hs) n

end Go.Gx
