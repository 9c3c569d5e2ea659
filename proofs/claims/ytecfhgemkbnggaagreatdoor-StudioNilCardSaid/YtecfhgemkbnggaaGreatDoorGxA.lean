/-
  A machine over values whose addresses speak of numbered blocks of its own: the values, their relation to those of the model, the operations, the frames.
-/
import Derived.Calls
import Derived.Laws.Sem
set_option linter.unusedVariables false
set_option linter.unusedSimpArgs false
set_option linter.unusedSectionVars false

/-- A binary tree that holds values at natural numbers: 0 at the root, the odd numbers to the left, the even ones to the right. -/
inductive Go.Gx.Tr (α : Type) where
  | nil
  | node (l : Tr α) (v : Option α) (r : Tr α)

namespace Go.Gx.Tr
variable {α β : Type}

instance : Inhabited (Tr α) := ⟨.nil⟩

def get : Tr α → Nat → Option α
  | nil, _ => none
  | node l v r, n => match Nat.beq n 0 with
    | true => v
    | false => match Nat.beq (Nat.mod n 2) 1 with
      | true => get l (Nat.div n 2)
      | false => get r (Nat.pred (Nat.div n 2))

def setF (x : Option α) : Nat → Nat → Tr α → Tr α
  | 0, _, t => t
  | f + 1, n, nil => match Nat.beq n 0 with
    | true => node nil x nil
    | false => match Nat.beq (Nat.mod n 2) 1 with
      | true => node (setF x f (Nat.div n 2) nil) none nil
      | false => node nil none (setF x f (Nat.pred (Nat.div n 2)) nil)
  | f + 1, n, node l v r => match Nat.beq n 0 with
    | true => node l x r
    | false => match Nat.beq (Nat.mod n 2) 1 with
      | true => node (setF x f (Nat.div n 2) l) v r
      | false => node l v (setF x f (Nat.pred (Nat.div n 2)) r)

def set (t : Tr α) (n : Nat) (x : Option α) : Tr α := setF x (n + 1) n t

/-- `set`, the tree's path written out before the rest goes on. -/
def setKF (x : Option α) : Nat → Nat → Tr α → (Tr α → β) → β
  | 0, _, t, k => k t
  | f + 1, n, nil, k => match Nat.beq n 0 with
    | true => k (node nil x nil)
    | false => match Nat.beq (Nat.mod n 2) 1 with
      | true => setKF x f (Nat.div n 2) nil fun l => k (node l none nil)
      | false => setKF x f (Nat.pred (Nat.div n 2)) nil fun r => k (node nil none r)
  | f + 1, n, node l v r, k => match Nat.beq n 0 with
    | true => k (node l x r)
    | false => match Nat.beq (Nat.mod n 2) 1 with
      | true => setKF x f (Nat.div n 2) l fun l => k (node l v r)
      | false => setKF x f (Nat.pred (Nat.div n 2)) r fun r => k (node l v r)

def setK (t : Tr α) (n : Nat) (x : Option α) (k : Tr α → β) : β := setKF x (n + 1) n t k

theorem setKF_eq (x : Option α) : ∀ (f n : Nat) (t : Tr α) (k : Tr α → β), setKF x f n t k = k (setF x f n t)
  | 0, _, _, _ => rfl
  | f + 1, n, nil, k => by
    simp only [setKF, setF]
    split
    · rfl
    · split <;> rw [setKF_eq x f]
  | f + 1, n, node l v r, k => by
    simp only [setKF, setF]
    split
    · rfl
    · split <;> rw [setKF_eq x f]

@[simp] theorem setK_eq (t : Tr α) (n : Nat) (x : Option α) (k : Tr α → β) : t.setK n x k = k (t.set n x) := setKF_eq x _ n t k

@[simp] theorem get_nil (n : Nat) : (nil : Tr α).get n = none := rfl

theorem nbf {a b : Nat} (h : a ≠ b) : Nat.beq a b = false := by
  cases e : Nat.beq a b with
  | false => rfl
  | true => exact absurd (Nat.eq_of_beq_eq_true e) h

theorem get_setF (x : Option α) : ∀ (f n : Nat) (t : Tr α) (m : Nat), n < f → (setF x f n t).get m = if m = n then x else t.get m
  | 0, _, _, _, h => by omega
  | f + 1, n, t, m, h => by
    have hd : ∀ k, k ≠ 0 → k % 2 = 1 → k = 2 * (k / 2) + 1 := by intro k _ _; omega
    have he : ∀ k, k ≠ 0 → k % 2 ≠ 1 → k = 2 * (Nat.pred (k / 2)) + 2 := by intro k _ _; simp only [Nat.pred_eq_sub_one]; omega
    have hdiv : ∀ k : Nat, Nat.div k 2 = k / 2 := fun _ => rfl
    have hmod : ∀ k : Nat, Nat.mod k 2 = k % 2 := fun _ => rfl
    by_cases hn : n = 0
    · subst hn
      cases t with
      | nil =>
        by_cases hm : m = 0
        · subst hm; simp [setF, get]
        · simp only [setF, get, hm, if_false]
          have : Nat.beq m 0 = false := nbf hm
          rw [this]; simp only []
          split <;> rfl
      | node l v r =>
        by_cases hm : m = 0
        · subst hm; simp [setF, get]
        · have : Nat.beq m 0 = false := nbf hm
          simp [setF, get, this, hm]
    · have hb : Nat.beq n 0 = false := nbf hn
      by_cases ho : n % 2 = 1
      · have hob : Nat.beq (n % 2) 1 = true := by simpa using ho
        have hlt : n / 2 < f := by omega
        by_cases hm : m = 0
        · subst hm
          have : (0 : Nat) ≠ n := fun e => hn e.symm
          cases t <;> simp [setF, get, hb, hdiv, hmod, hob, this]
        · have hmb : Nat.beq m 0 = false := nbf hm
          by_cases hmo : m % 2 = 1
          · have hmob : Nat.beq (m % 2) 1 = true := by simpa using hmo
            have hiff : (m / 2 = n / 2) = (m = n) := by
              apply propext; constructor
              · intro e; rw [hd m hm hmo, hd n hn ho, e]
              · intro e; rw [e]
            cases t with
            | nil => simp only [setF, get, hb, hdiv, hmod, hob, hmb, hmob]; rw [get_setF x f _ _ _ hlt]; simp only [hiff, get]
            | node l v r => simp only [setF, get, hb, hdiv, hmod, hob, hmb, hmob]; rw [get_setF x f _ _ _ hlt]; simp only [hiff]
          · have hmob : Nat.beq (m % 2) 1 = false := nbf hmo
            have hne : m ≠ n := fun e => hmo (e ▸ ho)
            cases t <;> simp [setF, get, hb, hdiv, hmod, hob, hmb, hmob, hne]
      · have hob : Nat.beq (n % 2) 1 = false := nbf ho
        have hlt : Nat.pred (n / 2) < f := by simp only [Nat.pred_eq_sub_one]; omega
        by_cases hm : m = 0
        · subst hm
          have : (0 : Nat) ≠ n := fun e => hn e.symm
          cases t <;> simp [setF, get, hb, hdiv, hmod, hob, this]
        · have hmb : Nat.beq m 0 = false := nbf hm
          by_cases hmo : m % 2 = 1
          · have hmob : Nat.beq (m % 2) 1 = true := by simpa using hmo
            have hne : m ≠ n := fun e => ho (e ▸ hmo)
            cases t <;> simp [setF, get, hb, hdiv, hmod, hob, hmb, hmob, hne]
          · have hmob : Nat.beq (m % 2) 1 = false := nbf hmo
            have hiff : (Nat.pred (m / 2) = Nat.pred (n / 2)) = (m = n) := by
              apply propext; constructor
              · intro e; rw [he m hm hmo, he n hn ho, e]
              · intro e; rw [e]
            cases t with
            | nil => simp only [setF, get, hb, hdiv, hmod, hob, hmb, hmob]; rw [get_setF x f _ _ _ hlt]; simp only [hiff, get]
            | node l v r => simp only [setF, get, hb, hdiv, hmod, hob, hmb, hmob]; rw [get_setF x f _ _ _ hlt]; simp only [hiff]

theorem get_set (t : Tr α) (n : Nat) (x : Option α) (m : Nat) : (t.set n x).get m = if m = n then x else t.get m :=
  get_setF x _ n t m (Nat.lt_succ_self n)

@[simp] theorem get_set_same (t : Tr α) (n : Nat) (x : Option α) : (t.set n x).get n = x := by rw [get_set, if_pos rfl]
theorem get_set_ne (t : Tr α) (n : Nat) (x : Option α) {m : Nat} (h : m ≠ n) : (t.set n x).get m = t.get m := by rw [get_set, if_neg h]

/-- The list's elements from `i` on, one behind the other. -/
def putL : List α → Nat → Tr α → Tr α
  | [], _, t => t
  | x :: l, i, t => putL l (i + 1) (t.set i (some x))

def putLK : List α → Nat → Tr α → (Tr α → β) → β
  | [], _, t, k => k t
  | x :: l, i, t, k => t.setK i (some x) fun t => putLK l (i + 1) t k

@[simp] theorem putLK_eq : ∀ (l : List α) (i : Nat) (t : Tr α) (k : Tr α → β), putLK l i t k = k (putL l i t)
  | [], _, _, _ => rfl
  | x :: l, i, t, k => by simp [putLK, putL, putLK_eq l]

theorem get_putL : ∀ (l : List α) (i : Nat) (t : Tr α) (m : Nat), (putL l i t).get m = if i ≤ m ∧ m < i + l.length then l[m - i]? else t.get m
  | [], i, t, m => by
    simp only [putL, List.length_nil, Nat.add_zero]
    rw [if_neg (by omega)]
  | x :: l, i, t, m => by
    rw [putL, get_putL l (i + 1)]
    by_cases h : i + 1 ≤ m ∧ m < i + 1 + l.length
    · rw [if_pos h, if_pos (by simp only [List.length_cons]; omega)]
      rw [show m - i = (m - (i + 1)) + 1 by omega, List.getElem?_cons_succ]
    · rw [if_neg h]
      by_cases e : m = i
      · subst e
        simp
      · rw [get_set_ne _ _ _ e, if_neg (by simp only [List.length_cons]; omega)]

def ofList (l : List α) : Tr α := putL l 0 nil

theorem get_ofList (l : List α) (m : Nat) : (ofList l).get m = l[m]? := by
  rw [ofList, get_putL]
  by_cases h : m < l.length
  · rw [if_pos (by omega), Nat.sub_zero]
  · rw [if_neg (by omega), get_nil, List.getElem?_eq_none (by omega)]

/-- `n` values from `i` on; none if one is missing. -/
def take (t : Tr α) : Nat → Nat → Option (List α)
  | _, 0 => some []
  | i, n + 1 => match t.get i with
    | none => none
    | some x => match take t (i + 1) n with
      | none => none
      | some l => some (x :: l)

theorem take_spec (t : Tr α) : ∀ (n i : Nat) (l : List α), t.take i n = some l → l.length = n ∧ ∀ j, j < n → t.get (i + j) = l[j]?
  | 0, i, l, h => by simp only [take, Option.some.injEq] at h; subst h; simp
  | n + 1, i, l, h => by
    simp only [take] at h
    cases hx : t.get i with
    | none => rw [hx] at h; cases h
    | some x =>
      rw [hx] at h
      cases hl : t.take (i + 1) n with
      | none => simp [hl] at h
      | some l' =>
        simp only [hl, Option.some.injEq] at h
        subst h
        obtain ⟨h1, h2⟩ := take_spec t n (i + 1) l' hl
        refine ⟨by simp [h1], fun j hj => ?_⟩
        cases j with
        | zero => simpa using hx
        | succ j =>
          have := h2 j (by omega)
          rw [show i + (j + 1) = i + 1 + j by omega, this, List.getElem?_cons_succ]

end Go.Gx.Tr

namespace Go.Gx
open Go

/-- A value whose addresses speak of numbered blocks of our own. -/
inductive AV where
  | any
  | bool (b : Bool)
  | int (k : IntKind) (n : Int)
  | str (len n : Nat)
  | pnil
  | ptr (id off : Nat)
  | gptr (g off : Nat)
  | snil
  | slice (id off len cap : Nat)
  | gslice (id off len sz : Nat)
  | mnil
  | map (id : Nat)
  | fnil
  | fn (f : FuncId) (first captured : List AV)
  | yield (loop : Nat)
  | inil
  | ifc (t : TypeId) (v : AV)
  | agg (l : List AV)
  | tup (l : List AV)
  | anyi (k : IntKind)
  deriving Inhabited

/-- `len` bytes of a number, the lowest first. -/
def bl : Nat → Nat → List UInt8
  | 0, _ => []
  | k + 1, n => UInt8.ofNat (n % 256) :: bl k (n / 256)

def strV (len n : Nat) : ByteArray := ⟨(bl len n).toArray⟩

/-- A block, and how many cells it has (0 if it has none). -/
structure Bk where
  b : Nat
  tot : Nat

abbrev Ren := Nat → Option Bk

mutual
inductive Rv (ρ : Ren) : AV → Value → Prop
  | any (v : Value) : Rv ρ .any v
  | bool (b : Bool) : Rv ρ (.bool b) (.bool b)
  | int (k : IntKind) (n : Int) : Rv ρ (.int k n) (.int k n)
  | str {len n : Nat} : n < 256 ^ len → Rv ρ (.str len n) (.string (strV len n))
  | pnil : Rv ρ .pnil (.pointer none)
  | ptr {id off : Nat} {k : Bk} : ρ id = some k → Rv ρ (.ptr id off) (.pointer (some ⟨k.b, off, none⟩))
  | gptr {g off : Nat} : Rv ρ (.gptr g off) (.pointer (some ⟨g, off, none⟩))
  | snil : Rv ρ .snil (.slice none 0 0)
  | slice {id off len cap : Nat} {k : Bk} : ρ id = some k → len ≤ cap → Rv ρ (.slice id off len cap) (.slice (some ⟨k.b, off, none⟩) len cap)
  | gslice {id off len sz c : Nat} {k : Bk} : ρ id = some k → len ≤ c → off + c * sz = k.tot → Rv ρ (.gslice id off len sz) (.slice (some ⟨k.b, off, none⟩) len c)
  | eslice {id off sz off' : Nat} {k : Bk} : ρ id = some k → Rv ρ (.gslice id off 0 sz) (.slice (some ⟨k.b, off', none⟩) 0 0)
  | mnil : Rv ρ .mnil (.map none)
  | map {id : Nat} {k : Bk} : ρ id = some k → Rv ρ (.map id) (.map (some k.b))
  | fnil : Rv ρ .fnil .nilFunc
  | fn {f : FuncId} {l m : List AV} {c d : Array Value} : RvL ρ l c.toList → RvL ρ m d.toList → Rv ρ (.fn f l m) (.func (.func f) c d)
  | yield {id : Nat} {k : Bk} : ρ id = some k → Rv ρ (.yield id) (.func (.yield k.b) #[] #[])
  | inil : Rv ρ .inil .nilIface
  | ifc {t : TypeId} {a : AV} {v : Value} : Rv ρ a v → Rv ρ (.ifc t a) (.iface t v)
  | agg {l : List AV} {c : Array Value} : RvL ρ l c.toList → Rv ρ (.agg l) (.agg c)
  | tup {l : List AV} {c : Array Value} : RvL ρ l c.toList → Rv ρ (.tup l) (.tuple c)
  | anyi (k : IntKind) (n : Int) : Rv ρ (.anyi k) (.int k n)
inductive RvL (ρ : Ren) : List AV → List Value → Prop
  | nil : RvL ρ [] []
  | cons {a : AV} {v : Value} {l : List AV} {vs : List Value} : Rv ρ a v → RvL ρ l vs → RvL ρ (a :: l) (v :: vs)
end

def Le (ρ ρ' : Ren) : Prop := ∀ i b, ρ i = some b → ρ' i = some b
theorem Le.refl (ρ : Ren) : Le ρ ρ := fun _ _ h => h
theorem Le.trans {ρ ρ' ρ'' : Ren} (h : Le ρ ρ') (h' : Le ρ' ρ'') : Le ρ ρ'' := fun i b e => h' i b (h i b e)

mutual
theorem Rv.mono {ρ ρ' : Ren} (h : Le ρ ρ') {a : AV} {v : Value} : Rv ρ a v → Rv ρ' a v
  | .any v => .any v
  | .bool b => .bool b
  | .int k n => .int k n
  | .str e => .str e
  | .pnil => .pnil
  | .ptr e => .ptr (h _ _ e)
  | .gptr => .gptr
  | .snil => .snil
  | .slice e l => .slice (h _ _ e) l
  | .gslice e l c => .gslice (h _ _ e) l c
  | .eslice e => .eslice (h _ _ e)
  | .mnil => .mnil
  | .map e => .map (h _ _ e)
  | .fnil => .fnil
  | .fn e e' => .fn (RvL.mono h e) (RvL.mono h e')
  | .yield e => .yield (h _ _ e)
  | .inil => .inil
  | .ifc e => .ifc (Rv.mono h e)
  | .agg e => .agg (RvL.mono h e)
  | .tup e => .tup (RvL.mono h e)
  | .anyi k n => .anyi k n
theorem RvL.mono {ρ ρ' : Ren} (h : Le ρ ρ') {l : List AV} {vs : List Value} : RvL ρ l vs → RvL ρ' l vs
  | .nil => .nil
  | .cons e r => .cons (Rv.mono h e) (RvL.mono h r)
end

theorem RvL.length {ρ : Ren} : ∀ {l : List AV} {vs : List Value}, RvL ρ l vs → l.length = vs.length
  | _, _, .nil => rfl
  | _, _, .cons _ r => by simp [r.length]

theorem RvL.get {ρ : Ren} : ∀ {l : List AV} {vs : List Value}, RvL ρ l vs → ∀ {i : Nat} {a : AV}, l[i]? = some a → ∃ v, vs[i]? = some v ∧ Rv ρ a v
  | _, _, .nil, i, a, h => by simp at h
  | _, _, .cons e r, 0, a, h => by simp only [List.getElem?_cons_zero, Option.some.injEq] at h; subst h; exact ⟨_, rfl, e⟩
  | _, _, .cons e r, i + 1, a, h => by
    simp only [List.getElem?_cons_succ] at h
    obtain ⟨v, hv, hr⟩ := r.get h
    exact ⟨v, by simpa using hv, hr⟩

theorem RvL.append {ρ : Ren} {l l' : List AV} {vs vs' : List Value} : RvL ρ l vs → RvL ρ l' vs' → RvL ρ (l ++ l') (vs ++ vs')
  | .nil, h => h
  | .cons e r, h => .cons e (r.append h)

theorem RvL.take {ρ : Ren} : ∀ {l : List AV} {vs : List Value} (n : Nat), RvL ρ l vs → RvL ρ (l.take n) (vs.take n)
  | _, _, 0, _ => by simp only [List.take_zero]; exact .nil
  | _, _, n + 1, .nil => by simp only [List.take_nil]; exact .nil
  | _, _, n + 1, .cons e r => .cons e (r.take n)

theorem RvL.drop {ρ : Ren} : ∀ {l : List AV} {vs : List Value} (n : Nat), RvL ρ l vs → RvL ρ (l.drop n) (vs.drop n)
  | _, _, 0, h => h
  | _, _, n + 1, .nil => by simp only [List.drop_nil]; exact .nil
  | _, _, n + 1, .cons e r => r.drop n

theorem RvL.of_get {ρ : Ren} : ∀ (l : List AV) (vs : List Value), l.length = vs.length → (∀ (i : Nat) (a : AV), l[i]? = some a → ∃ v, vs[i]? = some v ∧ Rv ρ a v) → RvL ρ l vs
  | [], [], _, _ => .nil
  | a :: l, v :: vs, hl, h => by
    obtain ⟨v', hv, hr⟩ := h 0 a rfl
    simp only [List.getElem?_cons_zero, Option.some.injEq] at hv
    subst hv
    exact .cons hr (RvL.of_get l vs (by simpa using hl) fun i b hb => by simpa using h (i + 1) b (by simpa using hb))

/-- What a block holds. -/
inductive ABlk where
  | cells (c : Tr AV) (n : Nat) (elem : TypeId) (fz : Nat) (grown : Bool)
  | map (es : List (AV × AV × Nat)) (clock : Nat)
  | striter (len n pos : Nat)
  | mapiter (m : Option Nat) (since : Nat) (seen : List Nat) (stepped : Nat)
  | loop (state : LoopState) (pending : Option Code) (fn : FuncId) (tmps : Tr AV) (ntm : Nat) (params : List Tmp) (assign body : Code) (defers : Nat)
  | deferred (empty : Bool)

structure St where
  blk : Tr ABlk
  nxt : Nat

inductive RvE (ρ : Ren) : List (AV × AV × Nat) → List MapEntry → Prop
  | nil : RvE ρ [] []
  | cons {k x : AV} {b : Nat} {e : MapEntry} {l : List (AV × AV × Nat)} {es : List MapEntry} :
      Rv ρ k e.key → Rv ρ x e.val → b = e.born → RvE ρ l es → RvE ρ ((k, x, b) :: l) (e :: es)

theorem RvE.mono {ρ ρ' : Ren} (h : Le ρ ρ') : ∀ {l : List (AV × AV × Nat)} {es : List MapEntry}, RvE ρ l es → RvE ρ' l es
  | _, _, .nil => .nil
  | _, _, .cons a b c r => .cons (a.mono h) (b.mono h) c (r.mono h)

theorem RvE.length {ρ : Ren} : ∀ {l : List (AV × AV × Nat)} {es : List MapEntry}, RvE ρ l es → l.length = es.length
  | _, _, .nil => rfl
  | _, _, .cons _ _ _ r => by simp [r.length]

/-- Slots against slots. -/
def RvT (ρ : Ren) (t : Tr AV) (n : Nat) (vs : Array Value) : Prop :=
  n ≤ vs.size ∧ ∀ i a, t.get i = some a → i < n ∧ ∃ v, vs[i]? = some v ∧ Rv ρ a v

theorem RvT.mono {ρ ρ' : Ren} (h : Le ρ ρ') {t : Tr AV} {n : Nat} {vs : Array Value} (e : RvT ρ t n vs) : RvT ρ' t n vs :=
  ⟨e.1, fun i a ha => ⟨(e.2 i a ha).1, let ⟨v, hv, hr⟩ := (e.2 i a ha).2; ⟨v, hv, hr.mono h⟩⟩⟩

/-- The frozen cells: none from the number on; but 0 tells only that none lies inside. -/
def Frz (fz size lo hi : Nat) : Prop := (lo = 0 ∧ hi = 0) ∨ match fz with
  | 0 => size ≤ lo
  | f + 1 => hi ≤ f

theorem Frz.ok {fz size lo hi i : Nat} (h : Frz fz size lo hi) (hi' : fz ≤ i + 1) (hs : i < size) : ¬ (lo ≤ i ∧ i < hi) := by
  rcases h with ⟨rfl, rfl⟩ | h
  · omega
  · cases fz with
    | zero => simp only at h; omega
    | succ f => simp only at h; omega

inductive RelB (ρ : Ren) : ABlk → Nat → Obj → Prop
  | cells {c : Tr AV} {n : Nat} {elem : TypeId} {fz : Nat} {gr : Bool} {arr : Array Value} {lo hi : Nat} :
      (∀ i a, c.get i = some a → i < n ∧ ∃ v, arr[i]? = some v ∧ Rv ρ a v) → n ≤ arr.size → (gr = false → arr.size = n) →
      Frz fz arr.size lo hi →
      RelB ρ (.cells c n elem fz gr) arr.size (.cells arr elem (lo, hi))
  | map {l : List (AV × AV × Nat)} {clock : Nat} {es : Array MapEntry} : RvE ρ l es.toList → RelB ρ (.map l clock) 0 (.map es clock)
  | striter {len n pos : Nat} : n < 256 ^ len → RelB ρ (.striter len n pos) 0 (.stringIter (strV len n) pos)
  | mapnil {since stepped : Nat} {seen : Array Nat} : RelB ρ (.mapiter none since seen.toList stepped) 0 (.mapIter none since seen stepped)
  | mapiter {id since stepped : Nat} {seen : Array Nat} {k : Bk} : ρ id = some k → RelB ρ (.mapiter (some id) since seen.toList stepped) 0 (.mapIter (some k.b) since seen stepped)
  | loop {st : LoopState} {pend : Option Code} {fn : FuncId} {t : Tr AV} {n : Nat} {tmps : Array Value} {params : Array Tmp} {assign body : Code} {d : Nat} {k : Bk} :
      RvT ρ t n tmps → ρ d = some k →
      RelB ρ (.loop st pend fn t n params.toList assign body d) 0 (.loop ⟨st, pend, fn, tmps, params, assign, body, k.b⟩)
  | deferred : RelB ρ (.deferred true) 0 (.deferred (some []))
  | taken : RelB ρ (.deferred false) 0 (.deferred none)

theorem RelB.mono {ρ ρ' : Ren} (h : Le ρ ρ') {B : ABlk} {n : Nat} {o : Obj} : RelB ρ B n o → RelB ρ' B n o
  | .cells a b c d => .cells (fun i x hx => ⟨(a i x hx).1, let ⟨v, hv, hr⟩ := (a i x hx).2; ⟨v, hv, hr.mono h⟩⟩) b c d
  | .map e => .map (e.mono h)
  | .striter e => .striter e
  | .mapnil => .mapnil
  | .mapiter e => .mapiter (h _ _ e)
  | .loop e d => .loop (e.mono h) (h _ _ d)
  | .deferred => .deferred
  | .taken => .taken

/-- A block that a live name of ours stands for. -/
def Held (ρ : Ren) (H : St) (b : Nat) : Prop := ∃ i k, ρ i = some k ∧ k.b = b ∧ H.blk.get i ≠ none

structure RelH (B : Nat) (ρ : Ren) (H : St) (w : World) : Prop where
  fresh : ∀ i k, ρ i = some k → i < H.nxt
  base : ∀ i k, ρ i = some k → B ≤ k.b
  lt : ∀ i k, ρ i = some k → k.b < w.heap.size
  inj : ∀ i j k l, ρ i = some k → ρ j = some l → k.b = l.b → H.blk.get i ≠ none → H.blk.get j ≠ none → i = j
  live : ∀ i, H.blk.get i ≠ none → i < H.nxt
  blk : ∀ i A k, H.blk.get i = some A → ρ i = some k → ∃ o, w.heap[k.b]? = some o ∧ RelB ρ A k.tot o

/-- What a run of ours does to the world: nothing that we did not hold has changed. -/
structure Fr (ρ : Ren) (H : St) (w w' : World) : Prop where
  size : w.heap.size ≤ w'.heap.size
  old : ∀ b, b < w.heap.size → ¬ Held ρ H b → w'.heap[b]? = w.heap[b]?
  tape : w'.tape = w.tape
  os : w'.os = w.os
  output : w'.output = w.output

/-- The names that we hold, later on. -/
structure Ext (ρ : Ren) (H : St) (w : World) (ρ' : Ren) (H' : St) : Prop where
  le : Le ρ ρ'
  nxt : H.nxt ≤ H'.nxt
  new : ∀ b, b < w.heap.size → Held ρ' H' b → Held ρ H b
  keep : ∀ i, ρ i = none → i < H.nxt → ρ' i = none ∧ H'.blk.get i = H.blk.get i

structure Res (B : Nat) (ρ : Ren) (H : St) (w : World) (ρ' : Ren) (H' : St) (w' : World) : Prop where
  ext : Ext ρ H w ρ' H'
  fr : Fr ρ H w w'
  rel : RelH B ρ' H' w'

theorem Res.refl {B : Nat} {ρ : Ren} {H : St} {w : World} (h : RelH B ρ H w) : Res B ρ H w ρ H w :=
  ⟨⟨Le.refl ρ, Nat.le_refl _, fun _ _ h => h, fun _ h _ => ⟨h, rfl⟩⟩, ⟨Nat.le_refl _, fun _ _ _ => rfl, rfl, rfl, rfl⟩, h⟩

theorem Res.trans {B : Nat} {ρ ρ' ρ'' : Ren} {H H' H'' : St} {w w' w'' : World} (h : Res B ρ H w ρ' H' w') (g : Res B ρ' H' w' ρ'' H'' w'') : Res B ρ H w ρ'' H'' w'' where
  ext := {
    le := h.ext.le.trans g.ext.le
    nxt := Nat.le_trans h.ext.nxt g.ext.nxt
    new := fun b hb hh => h.ext.new b hb (g.ext.new b (Nat.lt_of_lt_of_le hb h.fr.size) hh)
    keep := fun i hi hlt => by
      obtain ⟨h1, h2⟩ := h.ext.keep i hi hlt
      obtain ⟨g1, g2⟩ := g.ext.keep i h1 (Nat.lt_of_lt_of_le hlt h.ext.nxt)
      exact ⟨g1, g2.trans h2⟩ }
  fr := {
    size := Nat.le_trans h.fr.size g.fr.size
    old := fun b hb hn => by
      rw [g.fr.old b (Nat.lt_of_lt_of_le hb h.fr.size) fun hh => hn (h.ext.new b hb hh), h.fr.old b hb hn]
    tape := g.fr.tape.trans h.fr.tape
    os := g.fr.os.trans h.fr.os
    output := g.fr.output.trans h.fr.output }
  rel := g.rel

/-- A draw changes nothing of ours. -/
theorem RelH.drew {B : Nat} {ρ : Ren} {H : St} {w : World} (h : RelH B ρ H w) (n : Nat) : Res B ρ H w ρ H { w with drawn := n } :=
  ⟨⟨Le.refl ρ, Nat.le_refl _, fun _ _ h => h, fun _ h _ => ⟨h, rfl⟩⟩, ⟨Nat.le_refl _, fun _ _ _ => rfl, rfl, rfl, rfl⟩,
   ⟨h.fresh, h.base, h.lt, h.inj, h.live, h.blk⟩⟩

/-- One name more. -/
def Ren.add (ρ : Ren) (i : Nat) (k : Bk) : Ren := fun j => if j = i then some k else ρ j

theorem Ren.add_same (ρ : Ren) (i : Nat) (k : Bk) : ρ.add i k i = some k := if_pos rfl
theorem Ren.add_ne (ρ : Ren) {i j : Nat} (k : Bk) (h : j ≠ i) : ρ.add i k j = ρ j := if_neg h
theorem Ren.le_add {ρ : Ren} {i : Nat} (k : Bk) (h : ρ i = none) : Le ρ (ρ.add i k) := fun j b e => by
  unfold Ren.add
  by_cases hj : j = i
  · subst hj; rw [h] at e; cases e
  · rw [if_neg hj]; exact e

theorem getElem?_push_lt {α : Type} (a : Array α) (x : α) {i : Nat} (h : i < a.size) : (a.push x)[i]? = a[i]? := by
  rw [Array.getElem?_push, if_neg (by omega)]

theorem Ren.add_cases {ρ : Ren} {i j : Nat} {k l : Bk} (e : ρ.add i k j = some l) : (j = i ∧ l = k) ∨ (j ≠ i ∧ ρ j = some l) := by
  unfold Ren.add at e
  by_cases hj : j = i
  · rw [if_pos hj] at e; exact .inl ⟨hj, (Option.some.inj e).symm⟩
  · rw [if_neg hj] at e; exact .inr ⟨hj, e⟩

/-- A new block, under a name that stands for nothing yet, of which memory holds nothing. -/
theorem RelH.add {B : Nat} {ρ : Ren} {H : St} {w : World} (h : RelH B ρ H w) (hB : B ≤ w.heap.size) {i n tot : Nat} {A : ABlk} {o : Obj} (hi : ρ i = none) (hin : i < n) (hn : H.nxt ≤ n)
    (hr : RelB (ρ.add i ⟨w.heap.size, tot⟩) A tot o) :
    RelH B (ρ.add i ⟨w.heap.size, tot⟩) ⟨H.blk.set i (some A), n⟩ { w with heap := w.heap.push o } := by
  have hle : Le ρ (ρ.add i ⟨w.heap.size, tot⟩) := Ren.le_add _ hi
  refine ⟨fun j k e => ?_, fun j k e => ?_, fun j k e => ?_, fun j j' k l e e' hkl hl hl' => ?_, fun j hl => ?_, fun j A' k hg e => ?_⟩
  · rcases Ren.add_cases e with ⟨rfl, _⟩ | ⟨_, e⟩
    · exact hin
    · exact Nat.lt_of_lt_of_le (h.fresh j k e) hn
  · rcases Ren.add_cases e with ⟨_, rfl⟩ | ⟨_, e⟩
    · exact hB
    · exact h.base j k e
  · rcases Ren.add_cases e with ⟨_, rfl⟩ | ⟨_, e⟩
    · simp
    · have := h.lt j k e; simp only [Array.size_push]; omega
  · rcases Ren.add_cases e with ⟨h1, h2⟩ | ⟨hj, e1⟩ <;> rcases Ren.add_cases e' with ⟨h3, h4⟩ | ⟨hj', e2⟩
    · rw [h1, h3]
    · have := h.lt j' l e2; rw [h2] at hkl; simp only at hkl; omega
    · have := h.lt j k e1; rw [h4] at hkl; simp only at hkl; omega
    · rw [Tr.get_set_ne _ _ _ hj] at hl
      rw [Tr.get_set_ne _ _ _ hj'] at hl'
      exact h.inj j j' k l e1 e2 hkl hl hl'
  · by_cases hj : j = i
    · rw [hj]; exact hin
    · rw [Tr.get_set_ne _ _ _ hj] at hl
      exact Nat.lt_of_lt_of_le (h.live j hl) hn
  · rcases Ren.add_cases e with ⟨rfl, rfl⟩ | ⟨hj, e⟩
    · rw [Tr.get_set_same] at hg
      cases hg
      exact ⟨o, by simp, hr⟩
    · rw [Tr.get_set_ne _ _ _ hj] at hg
      obtain ⟨o', ho, hr'⟩ := h.blk j A' k hg e
      exact ⟨o', by rw [← ho]; exact getElem?_push_lt _ _ (h.lt j k e), hr'.mono hle⟩

theorem RelH.none_nxt {B : Nat} {ρ : Ren} {H : St} {w : World} (h : RelH B ρ H w) : ρ H.nxt = none := by
  cases e : ρ H.nxt with
  | none => rfl
  | some k => exact absurd (h.fresh _ _ e) (Nat.lt_irrefl _)

/-- A new block. -/
theorem RelH.push {B : Nat} {ρ : Ren} {H : St} {w : World} (h : RelH B ρ H w) (hB : B ≤ w.heap.size) {tot : Nat} {A : ABlk} {o : Obj}
    (hr : RelB (ρ.add H.nxt ⟨w.heap.size, tot⟩) A tot o) :
    Res B ρ H w (ρ.add H.nxt ⟨w.heap.size, tot⟩) ⟨H.blk.set H.nxt (some A), Nat.succ H.nxt⟩ { w with heap := w.heap.push o } := by
  refine ⟨⟨Ren.le_add _ h.none_nxt, Nat.le_succ _, fun b hb => ?_, fun j hj hlt => ?_⟩, ⟨by simp, fun b hb _ => getElem?_push_lt _ _ hb, rfl, rfl, rfl⟩,
    h.add hB h.none_nxt (Nat.lt_succ_self _) (Nat.le_succ _) hr⟩
  · rintro ⟨j, k, e, rfl, hl⟩
    rcases Ren.add_cases e with ⟨_, rfl⟩ | ⟨hj, e'⟩
    · simp at hb
    · exact ⟨j, k, e', rfl, by rwa [Tr.get_set_ne _ _ _ hj] at hl⟩
  · have hne : j ≠ H.nxt := Nat.ne_of_lt hlt
    exact ⟨by rw [Ren.add_ne _ _ hne]; exact hj, Tr.get_set_ne _ _ _ hne⟩

/-- A block of ours is written. -/
theorem RelH.setBlk {B : Nat} {ρ : Ren} {H : St} {w : World} (h : RelH B ρ H w) {i : Nat} {k : Bk} {A A' : ABlk} {o : Obj} (hk : ρ i = some k) (hl : H.blk.get i = some A)
    (hr : RelB ρ A' k.tot o) :
    Res B ρ H w ρ ⟨H.blk.set i (some A'), H.nxt⟩ { w with heap := w.heap.setIfInBounds k.b o } := by
  have hlt := h.lt i k hk
  have hlive : ∀ j, (H.blk.set i (some A')).get j ≠ none → H.blk.get j ≠ none := by
    intro j hj
    by_cases e : j = i
    · rw [e, hl]; simp
    · rwa [Tr.get_set_ne _ _ _ e] at hj
  refine ⟨⟨Le.refl ρ, Nat.le_refl _, fun b hb => ?_, fun j hj hlt' => ?_⟩, ⟨by simp, fun b hb hn => ?_, rfl, rfl, rfl⟩, ⟨h.fresh, h.base, fun j k' e => by simpa using h.lt j k' e, ?_, ?_, ?_⟩⟩
  · rintro ⟨j, k', e, rfl, hg⟩
    exact ⟨j, k', e, rfl, hlive j hg⟩
  · have hne : j ≠ i := fun e => by rw [e, hk] at hj; cases hj
    exact ⟨hj, Tr.get_set_ne _ _ _ hne⟩
  · have hne : k.b ≠ b := fun e => hn ⟨i, k, hk, e, by rw [hl]; simp⟩
    exact Array.getElem?_setIfInBounds_ne hne
  · intro j j' k₁ l e e' hkl hg hg'
    exact h.inj j j' k₁ l e e' hkl (hlive j hg) (hlive j' hg')
  · intro j hg
    exact h.live j (hlive j hg)
  · intro j A₂ k' hg e
    by_cases hj : j = i
    · subst hj
      rw [hk] at e; cases e
      rw [Tr.get_set_same] at hg; cases hg
      exact ⟨o, by rw [Array.getElem?_setIfInBounds_self_of_lt hlt], hr⟩
    · rw [Tr.get_set_ne _ _ _ hj] at hg
      obtain ⟨o', ho, hr'⟩ := h.blk j A₂ k' hg e
      have hne : k.b ≠ k'.b := fun e2 => hj (h.inj j i k' k e hk e2.symm (by rw [hg]; simp) (by rw [hl]; simp))
      exact ⟨o', by rw [Array.getElem?_setIfInBounds_ne hne]; exact ho, hr'⟩

end Go.Gx

namespace Go.Gx
open Go

/- What our machine asks of the program, laid out as trees; and what each operation does to our own memory. -/

structure Env where
  P : Program
  und : Tr TypeDesc
  siz : Tr Nat
  byt : Tr Nat
  zer : Tr AV
  fun' : Tr Func
  ext : Tr Nat
  glo : Tr (Tr AV)
  memo : List (FuncId × List AV × AV)

def num : List UInt8 → Nat
  | [] => 0
  | b :: l => b.toNat + 256 * num l

/-- A constant of the program's text. -/
def cst0 : Value → Option AV
  | .bool b => some (.bool b)
  | .int k n => some (.int k n)
  | .string s => some (.str s.data.toList.length (num s.data.toList))
  | .pointer none => some .pnil
  | .slice none 0 0 => some .snil
  | .map none => some .mnil
  | .nilFunc => some .fnil
  | .nilIface => some .inil
  | _ => none

def cstL : List Value → Option (List AV)
  | [] => some []
  | v :: vs => match cst0 v with
    | none => none
    | some a => match cstL vs with
      | none => none
      | some l => some (a :: l)

def cst : Value → Option AV
  | .agg cs => match cstL cs.toList with
    | none => none
    | some l => some (.agg l)
  | v => cst0 v

def opv (tm : Tr AV) : Operand → Option AV
  | .tmp t => tm.get t
  | .const v => cst v
  | .global g => some (.gptr g 0)
  | .func f => some (.fn f [] [])

def opvs (tm : Tr AV) : List Operand → Option (List AV)
  | [] => some []
  | x :: l => match opv tm x with
    | none => none
    | some a => match opvs tm l with
      | none => none
      | some r => some (a :: r)

/-- Is it the value of one cell, for sure? -/
def AV.one : AV → Bool
  | .any | .agg _ | .tup _ => false
  | _ => true

def AV.cells : AV → List AV
  | .agg l => l
  | a => [a]

/-- The cells of a value that is no unknown one. -/
def AV.cells? : AV → Option (List AV)
  | .agg l => if l.all AV.one then some l else none
  | a => if a.one then some [a] else none

def isAggB (E : Env) (t : TypeId) : Option Bool :=
  match E.und.get t with
  | some (.struct _) | some (.array _ _) => some true
  | some _ => some false
  | none => none

section ops
variable (E : Env) {β : Type}

def readCells (H : St) (id off n : Nat) : Option (List AV) :=
  match H.blk.get id with
  | some (.cells c _ _ _ _) => c.take off n
  | _ => none

def readGlob (g off n : Nat) : Option (List AV) :=
  match E.glo.get g with
  | some c => c.take off n
  | none => none

def aload (H : St) (t : TypeId) (a : AV) : Option AV :=
  match isAggB E t with
  | none => none
  | some true => match E.siz.get t with
    | none => none
    | some n => match a with
      | .ptr id off => match readCells H id off n with
        | some l => some (.agg l)
        | none => none
      | .gptr g off => match readGlob E g off n with
        | some l => some (.agg l)
        | none => none
      | _ => none
  | some false => match a with
    | .ptr id off => match H.blk.get id with
      | some (.cells c _ _ _ _) => c.get off
      | _ => none
    | .gptr g off => match E.glo.get g with
      | some c => c.get off
      | none => none
    | _ => none

/-- The cells `l` from `off` on of block `id`, which are all there. -/
def writeCells (H : St) (id off : Nat) (l : List AV) (k : St → Option β) : Option β :=
  match H.blk.get id with
  | some (.cells c n e fz g) => match Nat.ble (off + l.length) n && Nat.ble fz (Nat.succ off) with
    | true => Tr.putLK l off c fun c => H.blk.setK id (some (.cells c n e fz g)) fun b => k ⟨b, H.nxt⟩
    | false => none
  | _ => none

def astore (H : St) (t : TypeId) (a v : AV) (k : St → Option β) : Option β :=
  match E.siz.get t with
  | none => none
  | some n => match v.cells? with
    | none => none
    | some l => match Nat.beq l.length n with
      | false => none
      | true => match a with
        | .ptr id off => writeCells H id off l k
        | _ => none

def newBlk (H : St) (B : ABlk) (k : Nat → St → Option β) : Option β :=
  H.blk.setK H.nxt (some B) fun b => k H.nxt ⟨b, Nat.succ H.nxt⟩

def newCells (H : St) (elem : TypeId) (l : List AV) (fz : Nat) (k : Nat → St → Option β) : Option β :=
  Tr.putLK l 0 .nil fun c => newBlk H (.cells c l.length elem fz true) k

/-- A block of cells that an operation makes, and the value that it yields. -/
def mkBox (elem : TypeId) (v : AV) : Option (ABlk × (Nat → AV)) :=
  match v with
  | .any => none
  | v => some (.cells (Tr.putL v.cells 0 .nil) v.cells.length elem 1 false, fun id => .ptr id 0)

def part? (t : TypeId) (cs : List AV) (off : Nat) : Option AV :=
  match isAggB E t with
  | none => none
  | some true => match E.siz.get t with
    | none => none
    | some n => some (.agg ((cs.drop off).take n))
  | some false => cs[off]?

/-- `l` written over `cs` from `off` on. -/
def over (cs : List AV) (off : Nat) (l : List AV) : List AV := cs.take off ++ l ++ cs.drop (off + l.length)

def fillL (place : Nat → Option (Nat × Nat)) (cells : List AV) : List (Nat × AV) → Option (List AV)
  | [] => some cells
  | (i, v) :: rest => match place i with
    | none => none
    | some (off, size) => match v.cells? with
      | none => none
      | some l => match Nat.beq l.length size && Nat.ble (off + l.length) cells.length with
        | true => fillL place (over cells off l) rest
        | false => none

def partsL (tm : Tr AV) : List (Nat × Operand) → Option (List (Nat × AV))
  | [] => some []
  | (i, x) :: l => match opv tm x with
    | none => none
    | some a => match partsL tm l with
      | none => none
      | some r => some ((i, a) :: r)

def fieldAt? (fs : Array Field) (i : Nat) : Option (Nat × Nat) :=
  match fs[i]? with
  | none => none
  | some f => match E.siz.get f.type with
    | none => none
    | some n => some (f.offset, n)

def abuild (t : TypeId) (parts : List (Nat × AV)) : Option AV :=
  match E.zer.get t with
  | some (.agg zero) => match E.und.get t with
    | some (.struct fs) => match fillL (fieldAt? E fs) zero parts with
      | some l => some (.agg l)
      | none => none
    | some (.array _ elem) => match E.siz.get elem with
      | none => none
      | some size => match fillL (fun i => some (i * size, size)) zero parts with
        | some l => some (.agg l)
        | none => none
    | _ => none
  | _ => none

def repl (zero : List AV) : Nat → List AV
  | 0 => []
  | n + 1 => zero ++ repl zero n

def mkSlice (t : TypeId) (len : Nat) (parts : List (Nat × AV)) : Option (ABlk × (Nat → AV)) :=
  match E.und.get t with
  | some (.slice elem) => match E.siz.get elem, E.zer.get elem with
    | some size, some z => match Nat.ble (len * size) 65536, z.cells? with
      | true, some zl => match Nat.beq zl.length size with
        | false => none
        | true => match fillL (fun i => some (i * size, size)) (repl zl len) parts with
          | some l => some (.cells (Tr.putL l 0 .nil) l.length elem 1 false, fun id => .slice id 0 len len)
          | none => none
      | _, _ => none
    | _, _ => none
  | _ => none

def afieldAddr (s : TypeId) (x : AV) (f : Nat) : Option AV :=
  match E.und.get s with
  | some (.struct fs) => match fs[f]? with
    | none => none
    | some f => match E.siz.get f.type with
      | some (_ + 1) => match x with
        | .ptr id off => some (.ptr id (off + f.offset))
        | .gptr g off => some (.gptr g (off + f.offset))
        | _ => none
      | _ => none
  | _ => none

def nat? : Int → Option Nat
  | .ofNat n => some n
  | .negSucc _ => none

def aindexAddr (t : TypeId) (x ix : AV) : Option AV :=
  match ix with
  | .int _ i => match nat? i with
    | none => none
    | some i => match E.und.get t, x with
      | some (.array len elem), .ptr id off => match Nat.blt i len, E.siz.get elem with
        | true, some n => some (.ptr id (off + i * n))
        | _, _ => none
      | some (.array len elem), .gptr g off => match Nat.blt i len, E.siz.get elem with
        | true, some n => some (.gptr g (off + i * n))
        | _, _ => none
      | some (.slice elem), .slice id off len _ => match Nat.blt i len, E.siz.get elem with
        | true, some n => some (.ptr id (off + i * n))
        | _, _ => none
      | some (.slice elem), .gslice id off len _ => match Nat.blt i len, E.siz.get elem with
        | true, some n => some (.ptr id (off + i * n))
        | _, _ => none
      | _, _ => none
  | _ => none

def byteAt (n i : Nat) : Nat := Nat.mod (Nat.div n (256 ^ i)) 256

def aindex (t : TypeId) (x ix : AV) : Option AV :=
  match ix with
  | .int _ i => match nat? i with
    | none => none
    | some i => match E.und.get t, x with
      | some (.array len elem), .agg cs => match Nat.blt i len, E.siz.get elem with
        | true, some n => part? E elem cs (i * n)
        | _, _ => none
      | some .string, .str len n => match Nat.blt i len with
        | true => some (.int .u8 (Int.ofNat (byteAt n i)))
        | false => none
      | _, _ => none
  | _ => none

/-- The bounds of a slice expression: absent ones are the ends. -/
def abnd (x : Option AV) (dflt y : Nat) : Option Nat :=
  match x with
  | none => some dflt
  | some (.int _ i) => match nat? i with
    | some n => match Nat.ble n y with
      | true => some n
      | false => none
    | none => none
  | some _ => none

def abnds (len cap : Nat) (lo hi mx : Option AV) : Option (Nat × Nat × Nat) :=
  match mx, hi with
  | some _, none => none
  | _, _ => match abnd mx cap cap with
    | none => none
    | some m => match abnd hi len (if mx.isSome then m else cap) with
      | none => none
      | some h => match abnd lo 0 h with
        | none => none
        | some l => some (l, h, m)

def sub256 (n l h : Nat) : Nat := Nat.mod (Nat.div n (256 ^ l)) (256 ^ (h - l))

def aslice (t : TypeId) (x : AV) (lo hi mx : Option AV) : Option AV :=
  match E.und.get t with
  | some (.array n elem) => match abnds n n lo hi mx, E.siz.get elem with
    | some (l, h, m), some sz => match x with
      | .ptr id off => some (.slice id (if Nat.beq m l then off else off + l * sz) (h - l) (m - l))
      | _ => none
    | _, _ => none
  | some .string => match mx, x with
    | none, .str len n => match abnds len len lo hi none with
      | some (l, h, _) => some (.str (h - l) (sub256 n l h))
      | none => none
    | _, _ => none
  | some (.slice elem) => match E.siz.get elem with
    | none => none
    | some sz => match x with
      | .snil => match abnds 0 0 lo hi mx with
        | some _ => some .snil
        | none => none
      | .slice id off len cap => match abnds len cap lo hi mx with
        | some (l, h, m) => some (.slice id (if Nat.beq m l then off else off + l * sz) (h - l) (m - l))
        | none => none
      | .gslice id off len z => match mx, Nat.beq z sz with
        | none, true => match abnds len len lo hi none with
          | some (l, h, _) => some (.gslice id (off + l * sz) (h - l) sz)
          | none => none
        | _, _ => none
      | _ => none
  | _ => none

def aarith (op : BinOp) (k : IntKind) (a b : Int) : Option AV :=
  match op with
  | .add => some (.int k (k.wrap (a + b)))
  | .sub => some (.int k (k.wrap (a - b)))
  | .mul => some (.int k (k.wrap (a * b)))
  | .quo => if b = 0 then none else some (.int k (k.wrap (a.tdiv b)))
  | .rem => if b = 0 then none else some (.int k (a.tmod b))
  | .and => some (.int k (k.wrap (BitVec.ofInt k.bits a &&& BitVec.ofInt k.bits b).toNat))
  | .or => some (.int k (k.wrap (BitVec.ofInt k.bits a ||| BitVec.ofInt k.bits b).toNat))
  | .xor => some (.int k (k.wrap (BitVec.ofInt k.bits a ^^^ BitVec.ofInt k.bits b).toNat))
  | .andNot => some (.int k (k.wrap (BitVec.ofInt k.bits a &&& ~~~ BitVec.ofInt k.bits b).toNat))
  | .eql => some (.bool (a == b))
  | .neq => some (.bool (a != b))
  | .lss => some (.bool (decide (a < b)))
  | .leq => some (.bool (decide (a ≤ b)))
  | .gtr => some (.bool (decide (a > b)))
  | .geq => some (.bool (decide (a ≥ b)))
  | _ => none

def ashift (op : BinOp) (k : IntKind) (a y : Int) : Option AV :=
  if y < 0 then none else
  match op with
  | .shl => some (.int k (k.wrap (a * 2 ^ min y.toNat k.bits)))
  | .shr => some (.int k (a.fdiv (2 ^ min y.toNat k.bits)))
  | _ => none

def astr (op : BinOp) (l1 n1 l2 n2 : Nat) : Option AV :=
  match op with
  | .add => match Nat.ble (l1 + l2) 4611686018427387904 with
    | true => some (.str (l1 + l2) (n1 + 256 ^ l1 * n2))
    | false => none
  | .eql => some (.bool (Nat.beq l1 l2 && Nat.beq n1 n2))
  | .neq => some (.bool (!(Nat.beq l1 l2 && Nat.beq n1 n2)))
  | .lss => some (.bool (Op.bytesLess (bl l1 n1) (bl l2 n2)))
  | .leq => some (.bool (Op.bytesLess (bl l1 n1) (bl l2 n2) || (Nat.beq l1 l2 && Nat.beq n1 n2)))
  | .gtr => some (.bool (!(Op.bytesLess (bl l1 n1) (bl l2 n2) || (Nat.beq l1 l2 && Nat.beq n1 n2))))
  | .geq => some (.bool (!Op.bytesLess (bl l1 n1) (bl l2 n2)))
  | _ => none

section eq
variable (f : TypeId → AV → AV → Option Bool)

def aeqFields (xs ys : List AV) : List Field → Option Bool
  | [] => some true
  | fd :: fs => match fd.name != "_" with
    | false => aeqFields xs ys fs
    | true => match part? E fd.type xs fd.offset, part? E fd.type ys fd.offset with
      | some a, some b => match f fd.type a b with
        | some true => aeqFields xs ys fs
        | r => r
      | _, _ => none

def aeqElems (t : TypeId) (n : Nat) (xs ys : List AV) : Nat → Nat → Option Bool
  | _, 0 => some true
  | i, m + 1 => match part? E t xs (i * n), part? E t ys (i * n) with
    | some a, some b => match f t a b with
      | some true => aeqElems t n xs ys (i + 1) m
      | r => r
    | _, _ => none

end eq

/-- `==` -/
def aeqIn : Nat → TypeId → AV → AV → Option Bool
  | 0, _, _, _ => none
  | d + 1, t, x, y => match E.und.get t with
    | some .bool => match x, y with
      | .bool a, .bool b => some (a == b)
      | _, _ => none
    | some (.int _) => match x, y with
      | .int k a, .int j b => if k = j then some (a == b) else none
      | _, _ => none
    | some .string => match x, y with
      | .str l a, .str m b => some (Nat.beq l m && Nat.beq a b)
      | _, _ => none
    | some (.pointer e) => match x, y with
      | .pnil, .pnil => some true
      | .pnil, .ptr _ _ | .ptr _ _, .pnil | .pnil, .gptr _ _ | .gptr _ _, .pnil => some false
      | .ptr i a, .ptr j b => match E.siz.get e with
        | some (_ + 1) => if i = j then some (Nat.beq a b) else none
        | _ => none
      | _, _ => none
    | some (.slice _) => match x, y with
      | .snil, .snil => some true
      | .snil, .slice _ _ _ _ | .slice _ _ _ _, .snil | .snil, .gslice _ _ _ _ | .gslice _ _ _ _, .snil => some false
      | _, _ => none
    | some (.map _ _) => match x, y with
      | .mnil, .mnil => some true
      | .mnil, .map _ | .map _, .mnil => some false
      | _, _ => none
    | some (.func _ _ _) => match x, y with
      | .fnil, .fnil => some true
      | .fnil, .fn _ _ _ | .fn _ _ _, .fnil => some false
      | _, _ => none
    | some (.interface _) => match x, y with
      | .inil, .ifc _ _ | .ifc _ _, .inil => some false
      | _, _ => none
    | some (.struct fs) => match x, y with
      | .agg xs, .agg ys => match E.P.stoodInHeld t with
        | true => none
        | false => aeqFields E (aeqIn d) xs ys fs.toList
      | _, _ => none
    | some (.array n e) => match x, y, E.siz.get e with
      | .agg xs, .agg ys, some sz => aeqElems E (aeqIn d) e sz xs ys 0 n
      | _, _, _ => none
    | _ => none

def aeql (t : TypeId) (x y : AV) : Option Bool :=
  match x, y with
  | .agg _, .agg _ => match E.P.eqGuardType E.P.depth t with
    | true => none
    | false => aeqIn E 10000 t x y
  | x, y => aeqIn E 10000 t x y

def abin (op : BinOp) (t : TypeId) (x y : AV) (cx cy : Bool) : Option AV :=
  match x, y with
  | .int k a, .int j b => match op with
    | .shl | .shr => ashift op k a b
    | _ => if k = j then aarith op k a b else none
  | .str l a, .str m b => astr op l a m b
  | .anyi k, .int j b => match op with
    | .rem => if k = j then if b = 0 then none else some (.anyi k) else none
    | _ => none
  | .inil, .inil => match cx || cy, op, E.und.get t with
    | true, .eql, some (.interface _) => some (.bool true)
    | true, .neq, some (.interface _) => some (.bool false)
    | _, _, _ => none
  | x, y => match op with
    | .eql => match aeql E t x y with
      | some b => some (.bool b)
      | none => none
    | .neq => match aeql E t x y with
      | some b => some (.bool !b)
      | none => none
    | _ => none

def aun (op : UnOp) (x : AV) : Option AV :=
  match op, x with
  | .neg, .int k n => some (.int k (k.wrap (0 - n)))
  | .xor, .int k n => some (.int k (k.wrap (BitVec.ofInt k.bits (if k.signed then -1 else k.max) ^^^ BitVec.ofInt k.bits n).toNat))
  | .not, .bool b => some (.bool !b)
  | _, _ => none

def bytesCells : Nat → Nat → List AV
  | 0, _ => []
  | k + 1, n => .int .u8 (Int.ofNat (n % 256)) :: bytesCells k (n / 256)

/-- Cells that hold bytes, as a number. -/
def cellsNum : List AV → Option Nat
  | [] => some 0
  | .int .u8 n :: l => match nat? n with
    | none => none
    | some b => match Nat.blt b 256, cellsNum l with
      | true, some r => some (b + 256 * r)
      | _, _ => none
  | _ => none

def sliceCells (H : St) (size : Nat) : AV → Option (List AV)
  | .snil => some []
  | .slice id off len _ => readCells H id off (len * size)
  | .gslice id off len _ => readCells H id off (len * size)
  | _ => none

def aconv (H : St) (s d : TypeId) (x : AV) (k : AV → St → Option β) : Option β :=
  match E.und.get s, E.und.get d, x with
  | some .string, some (.slice e), .str l n => match E.und.get e with
    | some (.int .u8) => newCells H e (bytesCells l n) 0 fun id H => k (.gslice id 0 l 1) H
    | _ => none
  | some (.slice e), some .string, x => match E.und.get e with
    | some (.int .u8) => match sliceCells H 1 x with
      | none => none
      | some l => match cellsNum l with
        | none => none
        | some n => k (.str l.length n) H
    | _ => none
  | some (.pointer t), some .unsafePointer, x => match x with
    | .pnil => k .pnil H
    | .ptr id off => match E.siz.get t, H.blk.get id with
      | some (_ + 1), some (.cells _ n _ _ _) => match Nat.blt off n with
        | true => k (.ptr id off) H
        | false => none
      | _, _ => none
    | _ => none
  | some .unsafePointer, some (.pointer u), x => match x with
    | .pnil => k .pnil H
    | .ptr id off => match H.blk.get id, E.siz.get u with
      | some (.cells _ n e _ false), some _ => match liesAt E.P E.P.depth e (n / E.P.cellsOf e) off u 1 with
        | true => k (.ptr id off) H
        | false => none
      | _, _ => none
    | _ => none
  | _, _, _ => none

/-- Is it a key of the kinds that are compared at once? -/
def akey : TypeDesc → AV → AV → Option Bool
  | .int _, .int k a, .int j b => if k = j then some (a == b) else none
  | .string, .str l a, .str m b => some (Nat.beq l m && Nat.beq a b)
  | .bool, .bool a, .bool b => some (a == b)
  | _, _, _ => none

def afind (d : TypeDesc) (x : AV) : List (AV × AV × Nat) → Nat → Option (Option (Nat × AV × Nat))
  | [], _ => some none
  | (y, v, born) :: l, i => match akey d x y with
    | some true => some (some (i, v, born))
    | some false => afind d x l (i + 1)
    | none => none

/-- The entries of a map, and its clock. -/
def mapOf (H : St) : AV → Option (List (AV × AV × Nat) × Nat)
  | .mnil => some ([], 0)
  | .map id => match H.blk.get id with
    | some (.map es clock) => some (es, clock)
    | _ => none
  | _ => none

def plainKey : TypeDesc → Bool
  | .int _ | .string | .bool => true
  | _ => false

def alookup (H : St) (t : TypeId) (m key : AV) (commaOk : Bool) : Option AV :=
  match E.und.get t with
  | some (.map kt et) => match E.und.get kt, mapOf H m with
    | some kd, some (es, _) => match plainKey kd with
      | false => none
      | true => match afind kd key es 0 with
        | none => none
        | some (some (_, v, _)) => some (if commaOk then .tup [v, .bool true] else v)
        | some none => match E.zer.get et with
          | some z => some (if commaOk then .tup [z, .bool false] else z)
          | none => none
    | _, _ => none
  | _ => none

def setAt {α : Type} (f : α → α) : List α → Nat → List α
  | [], _ => []
  | x :: l, 0 => f x :: l
  | x :: l, i + 1 => x :: setAt f l i

def amapUpdate (H : St) (t : TypeId) (m key v : AV) (k : St → Option β) : Option β :=
  match E.und.get t, m with
  | some (.map kt _), .map id => match E.und.get kt, H.blk.get id with
    | some kd, some (.map es clock) => match plainKey kd with
      | false => none
      | true => match afind kd key es 0 with
        | none => none
        | some (some (i, _, _)) => H.blk.setK id (some (.map (setAt (fun e => (key, v, e.2.2)) es i) clock)) fun b => k ⟨b, H.nxt⟩
        | some none => H.blk.setK id (some (.map (es ++ [(key, v, clock)]) (Nat.succ clock))) fun b => k ⟨b, H.nxt⟩
    | _, _ => none
  | _, _ => none

def amapEntry (H : St) (t : TypeId) (m key : AV) (k : AV → St → Option β) : Option β :=
  match E.und.get t, m with
  | some (.map kt et), .map id => match E.und.get kt, H.blk.get id with
    | some kd, some (.map es clock) => match plainKey kd with
      | false => none
      | true => match afind kd key es 0 with
        | none => none
        | some (some (i, v, born)) => H.blk.setK id (some (.map (setAt (fun e => (key, e.2)) es i) clock)) fun b => k (.tup [v, .int .i64 (Int.ofNat born)]) ⟨b, H.nxt⟩
        | some none => match E.zer.get et with
          | none => none
          | some z => H.blk.setK id (some (.map (es ++ [(key, z, clock)]) (Nat.succ clock))) fun b => k (.tup [z, .int .i64 (Int.ofNat clock)]) ⟨b, H.nxt⟩
    | _, _ => none
  | _, _ => none

def bornAt (n : Nat) : List (AV × AV × Nat) → Nat → Option Nat
  | [], _ => none
  | e :: l, i => match Nat.beq e.2.2 n with
    | true => some i
    | false => bornAt n l (i + 1)

def aentryStore (H : St) (m stamp v : AV) (k : St → Option β) : Option β :=
  match m, stamp with
  | .map id, .int _ s => match nat? s, H.blk.get id with
    | some s, some (.map es clock) => match bornAt s es 0 with
      | none => none
      | some i => H.blk.setK id (some (.map (setAt (fun e => (e.1, v, e.2.2)) es i) clock)) fun b => k ⟨b, H.nxt⟩
    | _, _ => none
  | _, _ => none

def arange (H : St) (t : TypeId) (x : AV) (k : AV → St → Option β) : Option β :=
  match E.und.get t, x with
  | some .string, .str l n => newBlk H (.striter l n 0) fun id H => k (.ptr id 0) H
  | some (.map _ _), .mnil => newBlk H (.mapiter none 0 [] 0) fun id H => k (.ptr id 0) H
  | some (.map _ _), .map m => match H.blk.get m with
    | some (.map _ clock) => newBlk H (.mapiter (some m) clock [] clock) fun id H => k (.ptr id 0) H
    | _ => none
  | _, _ => none

/-- The next rune of a string: ASCII alone. -/
def anext (H : St) (it : AV) (isString : Bool) (k : AV → St → Option β) : Option β :=
  match it with
  | .ptr id 0 => match H.blk.get id, isString with
    | some (.striter len n pos), true => match Nat.blt pos len with
      | false => k (.tup [.bool false]) H
      | true => match Nat.blt (byteAt n pos) 128 with
        | false => none
        | true => H.blk.setK id (some (.striter len n (Nat.succ pos))) fun b =>
          k (.tup [.bool true, .int .i64 (Int.ofNat pos), .int .i32 (Int.ofNat (byteAt n pos))]) ⟨b, H.nxt⟩
    | some (.mapiter none _ _ _), false => k (.tup [.bool false]) H
    | some (.mapiter (some m) since seen last), false => match H.blk.get m with
      | some (.map es clock) =>
        if !seen.isEmpty && !es.isEmpty && es.all (fun e => e.2.2 ≥ last) then none else
        match es.filter fun e => !seen.contains e.2.2 with
        | [] => k (.tup [.bool false]) H
        | [e] => if e.2.2 < since then
            H.blk.setK id (some (.mapiter (some m) since (seen ++ [e.2.2]) clock)) fun b => k (.tup [.bool true, e.1, e.2.1]) ⟨b, H.nxt⟩
          else none
        | _ => none
      | _ => none
    | _, _ => none
  | _ => none

def atypeAssert (x : AV) (asserted : TypeId) (commaOk : Bool) : Option AV :=
  match E.und.get asserted with
  | some (.interface _) => none
  | none => none
  | some _ => match x with
    | .ifc t v => if t = asserted then some (if commaOk then .tup [v, .bool true] else v)
      else match commaOk, E.zer.get asserted with
        | true, some z => some (.tup [z, .bool false])
        | _, _ => none
    | .inil => match commaOk, E.zer.get asserted with
      | true, some z => some (.tup [z, .bool false])
      | _, _ => none
    | _ => none

def mkMake (t : TypeId) (l c : AV) : Option (ABlk × (Nat → AV)) :=
  match E.und.get t, l, c with
  | some (.slice e), .int _ l, .int _ c => match nat? l, nat? c, E.siz.get e, E.zer.get e, E.byt.get e with
    | some l, some c, some sz, some z, some by_ => match z.cells?, Nat.ble l c && Nat.ble c 65536 && Nat.ble by_ 65536 with
      | some zl, true => match Nat.beq zl.length sz with
        | true => some (.cells (Tr.putL (repl zl c) 0 .nil) (repl zl c).length e 1 false, fun id => .slice id 0 l c)
        | false => none
      | _, _ => none
    | _, _, _, _, _ => none
  | _, _, _ => none

/-- May an append make so many elements anew? -/
def fits (e : TypeId) (size need : Nat) : Bool :=
  match E.byt.get e, E.zer.get e with
  | some n, some z => match z.cells? with
    | some l => Nat.ble need 1048576 && Nat.ble n 65536 && Nat.beq l.length size
    | none => false
  | _, _ => false

def kill (H : St) (id : Nat) (k : St → Option β) : Option β := H.blk.setK id none fun b => k ⟨b, H.nxt⟩

/-- The cells that are appended, and how many elements. -/
def srcCells (H : St) (size : Nat) : AV → Option (List AV × Nat)
  | .str l n => if size = 1 then some (bytesCells l n, l) else none
  | .snil => some ([], 0)
  | .slice id off len _ => match readCells H id off (len * size) with
    | some l => some (l, len)
    | none => none
  | .gslice id off len _ => match readCells H id off (len * size) with
    | some l => some (l, len)
    | none => none
  | _ => none

def aappend (H : St) (at0 at1 : TypeId) (s x : AV) (k : AV → St → Option β) : Option β :=
  match E.und.get at0, E.und.get at1 with
  | some (.slice e), some xd => match (match xd with | .int _ => true | _ => false), E.siz.get e with
    | false, some (size + 1) => match srcCells H (size + 1) x with
      | none => none
      | some (new, n) => match new.all AV.one with
        | false => none
        | true => match s with
          | .snil => match n with
            | 0 => k .snil H
            | _ => match fits E e (size + 1) n with
              | true => newCells H e new 1 fun id H => k (.gslice id 0 n (size + 1)) H
              | false => none
          | .slice id off len cap => match Nat.ble (len + n) cap with
            | true => match n with
              | 0 => k (.slice id off len cap) H
              | _ => writeCells H id (off + len * (size + 1)) new fun H => k (.slice id off (len + n) cap) H
            | false => match readCells H id off (len * (size + 1)), fits E e (size + 1) (len + n) with
              | some old, true => newCells H e (old ++ new) 1 fun id H => k (.gslice id 0 (len + n) (size + 1)) H
              | _, _ => none
          | .gslice id 0 len sz => match n, Nat.beq sz (size + 1) with
            | 0, true => k (.gslice id 0 len sz) H
            | _, true => match H.blk.get id with
              | some (.cells c m e' fz true) => match Nat.beq e' e && Nat.beq m (len * sz) && Nat.ble fz (Nat.succ m), c.take 0 (len * sz), fits E e (size + 1) (len + n) with
                | true, some _, true => kill H id fun H => Tr.putLK new (len * sz) c fun c =>
                    newBlk H (.cells c (len * sz + new.length) e fz true) fun id' H => k (.gslice id' 0 (len + n) sz) H
                | _, _, _ => none
              | _ => none
            | _, false => none
          | _ => none
    | _, _ => none
  | _, _ => none

def acopy (H : St) (at0 : TypeId) (d s : AV) (k : AV → St → Option β) : Option β :=
  match E.und.get at0 with
  | some (.slice e) => match E.siz.get e with
    | some size => match srcCells H size s with
      | none => none
      | some (new, n) => match new.all AV.one with
        | false => none
        | true => match d with
          | .snil => k (.int .i64 0) H
          | .slice id off len _ => match Nat.min n len with
            | 0 => k (.int .i64 0) H
            | m => writeCells H id off (new.take (m * size)) fun H => k (.int .i64 (Int.ofNat m)) H
          | .gslice id off len _ => match Nat.min n len with
            | 0 => k (.int .i64 0) H
            | m => writeCells H id off (new.take (m * size)) fun H => k (.int .i64 (Int.ofNat m)) H
          | _ => none
    | none => none
  | _ => none

def alen (t : TypeId) (x : AV) : Option AV :=
  match E.und.get t, x with
  | some .string, .str l _ => some (.int .i64 (Int.ofNat l))
  | some (.array n _), _ => some (.int .i64 (Int.ofNat n))
  | some (.slice _), .snil => some (.int .i64 0)
  | some (.slice _), .slice _ _ l _ => some (.int .i64 (Int.ofNat l))
  | some (.slice _), .gslice _ _ l _ => some (.int .i64 (Int.ofNat l))
  | _, _ => none

def acap (t : TypeId) (x : AV) : Option AV :=
  match E.und.get t, x with
  | some (.slice _), .snil => some (.int .i64 0)
  | some (.slice _), .slice _ _ _ c => some (.int .i64 (Int.ofNat c))
  | _, _ => none

def aextF (big : Bool) (k : IntKind) (x : Int) : List AV → Option AV
  | [] => some (.int k x)
  | .int _ y :: l => aextF big k (if big then (if y > x then y else x) else (if y < x then y else x)) l
  | _ => none

def aext (big : Bool) : List AV → Option AV
  | [.anyi k, .int _ _] => some (.anyi k)
  | .int k x :: l => aextF big k x l
  | _ => none

def abuiltin (H : St) (b : Builtin) (ats : Array TypeId) (args : List AV) (k : AV → St → Option β) : Option β :=
  match b, args with
  | .append, [s, x] => match ats[0]?, ats[1]? with
    | some t, some u => aappend E H t u s x k
    | _, _ => none
  | .copy, [d, s] => match ats[0]? with
    | some t => acopy E H t d s k
    | none => none
  | .unsafeString, [p, .int _ n] => match nat? n, ats[0]? with
    | some 0, some _ => match p with
      | .pnil => k (.str 0 0) H
      | .ptr _ _ => k (.str 0 0) H
      | _ => none
    | some (n + 1), some pt => match p, E.und.get pt with
      | .ptr id off, some (.pointer u) => match H.blk.get id with
        | some (.cells c m e (f + 1) g) => match Nat.beq e u && Nat.beq (E.P.cellsOf e) 1 && Nat.ble n 16777216, c.take off (n + 1) with
          | true, some l => match cellsNum l with
            | some s => H.blk.setK id (some (.cells c m e (Nat.succ (max f (off + (n + 1)))) g)) fun b => k (.str (n + 1) s) ⟨b, H.nxt⟩
            | none => none
          | _, _ => none
        | _ => none
      | _, _ => none
    | _, _ => none
  | _, _ => none

def aoptv (tm : Tr AV) : Option Operand → Option (Option AV)
  | none => some none
  | some x => match opv tm x with
    | some a => some (some a)
    | none => none

def anilCheck : AV → Option AV
  | .any | .pnil | .inil | .fnil => none
  | x => some x

def one1 (tm : Tr AV) (x : Operand) (f : AV → Option β) : Option β :=
  match opv tm x with
  | none => none
  | some a => f a

def isConstO : Operand → Bool
  | .const _ => true
  | _ => false

def pureBuiltin (b : Builtin) (ats : Array TypeId) (args : List AV) : Option AV :=
  match b, args with
  | .len, [x] => match ats[0]? with
    | some t => alen E t x
    | none => none
  | .cap, [x] => match ats[0]? with
    | some t => acap E t x
    | none => none
  | .max, l => aext true l
  | .min, l => aext false l
  | .unsafeSliceData, [x] => match x with
    | .snil => some .pnil
    | .slice id off _ (_ + 1) => some (.ptr id off)
    | .gslice id off (_ + 1) _ => some (.ptr id off)
    | _ => none
  | _, _ => none

/-- The operations that look at nothing but their operands. -/
def apure (tm : Tr AV) (o : Op) : Option AV :=
  match o with
  | .move x | .assign x => opv tm x
  | .pick c a b => one1 tm c fun c => match c with
    | .bool true => opv tm a
    | .bool false => opv tm b
    | _ => none
  | .build t ps => match partsL tm ps.toList with
    | some l => abuild E t l
    | none => none
  | .nilCheck x => one1 tm x anilCheck
  | .binOp op t x y _ => one1 tm x fun a => one1 tm y fun b => abin E op t a b (isConstO x) (isConstO y)
  | .unOp op _ x => one1 tm x (aun op)
  | .makeInterface t x => one1 tm x fun x => match E.und.get t with
    | some (.interface _) => none
    | none => none
    | some _ => some (.ifc t x)
  | .makeFunc (.func f) a b => match opvs tm a.toList, opvs tm b.toList with
    | some l, some m => some (.fn f l m)
    | _, _ => none
  | .slice t x lo hi mx => one1 tm x fun x => match aoptv tm lo, aoptv tm hi, aoptv tm mx with
    | some lo, some hi, some mx => aslice E t x lo hi mx
    | _, _, _ => none
  | .fieldAddr s x f => one1 tm x fun x => afieldAddr E s x f
  | .field t x f => one1 tm x fun x => match E.und.get t, x with
    | some (.struct fs), .agg cs => match fs[f]? with
      | some f => part? E f.type cs f.offset
      | none => none
    | _, _ => none
  | .indexAddr t x i => one1 tm x fun x => one1 tm i fun i => aindexAddr E t x i
  | .index t x i => one1 tm x fun x => one1 tm i fun i => aindex E t x i
  | .typeAssert x _ t ok => one1 tm x fun x => atypeAssert E x t ok
  | .extract x i => one1 tm x fun x => match x with
    | .tup l => l[i]?
    | _ => none
  | .convert s d x => one1 tm x fun x => match E.und.get s, E.und.get d, x with
    | some (.int _), some (.int kd), .int _ n => some (.int kd (kd.wrap n))
    | some .string, some .string, .str l n => some (.str l n)
    | _, _, _ => none
  | .call ⟨.builtin b, args, ats⟩ => match opvs tm args.toList with
    | some l => pureBuiltin E b ats l
    | none => none
  | _ => none

/-- The operations that also read memory. -/
def aread (tm : Tr AV) (H : St) (o : Op) : Option AV :=
  match o with
  | .load t a => one1 tm a fun a => aload E H t a
  | .lookup t m x ok => one1 tm m fun m => one1 tm x fun x => alookup E H t m x ok
  | .call ⟨.builtin .len, args, ats⟩ => match opvs tm args.toList, ats[0]? with
    | some [x], some t => match E.und.get t, mapOf H x with
      | some (.map _ _), some (es, _) => some (.int .i64 (Int.ofNat es.length))
      | _, _ => none
    | _, _ => none
  | _ => none

/-- The operations that make one block. -/
def amk (tm : Tr AV) (o : Op) : Option (ABlk × (Nat → AV)) :=
  match o with
  | .alloc t => match E.zer.get t with
    | some z => mkBox t z
    | none => none
  | .box t x => one1 tm x fun a => mkBox t a
  | .buildSlice t n ps => match partsL tm ps.toList with
    | some l => mkSlice E t n l
    | none => none
  | .makeMap t res => match res with
    | none => some (.map [] 0, fun id => .map id)
    | some x => one1 tm x fun x => match E.und.get t, x with
      | some (.map _ _), .int _ _ => some (.map [] 0, fun id => .map id)
      | _, _ => none
  | .makeSlice t l c => one1 tm l fun l => one1 tm c fun c => mkMake E t l c
  | _ => none

/-- The operations that write, but for calls of functions. -/
def awrite (tm : Tr AV) (H : St) (o : Op) (k : AV → St → Option β) : Option β :=
  match o with
  | .store t a x => one1 tm a fun a => one1 tm x fun x => astore E H t a x fun H => k (.tup []) H
  | .convert s d x => one1 tm x fun x => aconv E H s d x k
  | .mapUpdate t m x v | .insert t m x v => one1 tm m fun m => one1 tm x fun x => one1 tm v fun v => amapUpdate E H t m x v fun H => k (.tup []) H
  | .mapEntry t m x => one1 tm m fun m => one1 tm x fun x => amapEntry E H t m x k
  | .entryStore _ m s v => one1 tm m fun m => one1 tm s fun s => one1 tm v fun v => aentryStore H m s v fun H => k (.tup []) H
  | .range t x => one1 tm x fun x => arange E H t x k
  | .next it s => one1 tm it fun it => anext H it s k
  | .call ⟨.builtin b, args, ats⟩ => match opvs tm args.toList with
    | some l => abuiltin E H b ats l k
    | none => none
  | _ => none

inductive Cls where
  | pure | read | make | write | call
  deriving DecidableEq

/-- What kind of operation is it? -/
def cls (E : Env) (o : Op) : Cls :=
  match o with
  | .move _ | .assign _ | .pick .. | .build .. | .nilCheck _ | .binOp .. | .unOp .. | .makeInterface .. | .makeFunc .. | .slice .. | .fieldAddr .. | .field ..
  | .indexAddr .. | .index .. | .typeAssert .. | .extract .. => .pure
  | .convert s d _ => match E.und.get s, E.und.get d with
    | some (.int _), some (.int _) => .pure
    | some .string, some .string => .pure
    | _, _ => .write
  | .load .. | .lookup .. => .read
  | .alloc _ | .box .. | .buildSlice .. | .makeMap .. | .makeSlice .. => .make
  | .call c => match c.callee with
    | .builtin .len => match c.argTypes[0]? with
      | some t => match E.und.get t with
        | some (.map _ _) => .read
        | _ => .pure
      | none => .pure
    | .builtin .cap | .builtin .max | .builtin .min | .builtin .unsafeSliceData => .pure
    | .builtin .recover => .call
    | .builtin _ => .write
    | _ => .call
  | .defer _ | .go _ | .panic _ | .send .. | .recv .. | .select .. => .call
  | _ => .write

/-- The operations that neither call nor leave. -/
def aop (tm : Tr AV) (H : St) (o : Op) (k : AV → St → Option β) : Option β :=
  match cls E o with
  | .pure => match apure E tm o with
    | some a => k a H
    | none => none
  | .read => match aread E tm H o with
    | some a => k a H
    | none => none
  | .make => match amk E tm o with
    | some (B, f) => newBlk H B fun id H => k (f id) H
    | none => none
  | .write => awrite E tm H o k
  | .call => none

end ops

end Go.Gx

namespace Go.Gx
open Go

inductive AMode where
  | run
  | ret
  | pan (chain : List (AV × Bool))

inductive AIt where
  | code (c : Code)
  | inBlock (id : Nat)
  | inLoop (c : Code)
  | inScope (c : Code)
  | ops (all rest : List Oper)
  | inRF (l : Nat)
  | endRF (l : Nat)
  | beginRound

inductive ADf where
  | call (f : FuncId) (args cap : List AV)
  | collected (id : Nat)

structure AFr where
  fn : FuncId
  ntm : Nat
  tmps : Tr AV
  todo : List AIt
  defers : List ADf
  mode : AMode
  kind : CallKind
  rnd : Option Nat

def aexitTo (id : Nat) : List AIt → Option (List AIt)
  | [] => none
  | .inBlock j :: k => if Nat.beq j id then some k else aexitTo id k
  | _ :: k => aexitTo id k

def agotoIn (l : Nat) : List AIt → Option (List AIt)
  | [] => none
  | .inScope body :: k => match findLabel body l with
    | some rest => some (.code rest :: .inScope body :: k)
    | none => agotoIn l k
  | _ :: k => agotoIn l k

section
variable {β : Type}

/-- A number, a value written out before the rest goes on. -/
def forceN (n : Nat) (k : Nat → β) : β :=
  match n with
  | 0 => k 0
  | m + 1 => k (Nat.succ m)

@[simp] theorem forceN_eq (n : Nat) (k : Nat → β) : forceN n k = k n := by cases n <;> rfl

def forceI (n : Int) (k : Int → β) : β :=
  match n with
  | .ofNat m => forceN m fun m => k (.ofNat m)
  | .negSucc m => forceN m fun m => k (.negSucc m)

@[simp] theorem forceI_eq (n : Int) (k : Int → β) : forceI n k = k n := by cases n <;> simp [forceI]

def forceB (b : Bool) (k : Bool → β) : β :=
  match b with
  | true => k true
  | false => k false

@[simp] theorem forceB_eq (b : Bool) (k : Bool → β) : forceB b k = k b := by cases b <;> rfl

def forceV (a : AV) (k : AV → β) : β :=
  match a with
  | .int i n => forceI n fun n => k (.int i n)
  | .bool b => forceB b fun b => k (.bool b)
  | .str l n => forceN l fun l => forceN n fun n => k (.str l n)
  | .ptr i o => forceN o fun o => k (.ptr i o)
  | .slice i o l c => forceN o fun o => forceN l fun l => forceN c fun c => k (.slice i o l c)
  | .gslice i o l c => forceN o fun o => forceN l fun l => forceN c fun c => k (.gslice i o l c)
  | a => k a

@[simp] theorem forceV_eq (a : AV) (k : AV → β) : forceV a k = k a := by cases a <;> simp [forceV]

end

/-- The guard of an operation: is it wanted? -/
def awanted (all : List Oper) (tm : Tr AV) (o : Oper) : Option Bool :=
  match o.guard with
  | none => some true
  | some (j, want) => match all[j]? with
    | none => none
    | some p => match p.dst with
      | none => none
      | some d => match tm.get d with
        | some (.bool b) => some (b == want)
        | some (.tup []) => some false
        | _ => none

def aput (tm : Tr AV) (dst : Option Tmp) (n : Nat) (v : AV) {β : Type} (k : Tr AV → Option β) : Option β :=
  match dst with
  | none => k tm
  | some d => match Nat.blt d n with
    | true => forceV v fun v => tm.setK d (some v) k
    | false => none

abbrev Out := AV × St

/-- The frame of a call. -/
def aenter (E : Env) (f : FuncId) (args : List AV) (kind : CallKind) (k : AFr → Option Out) : Option Out :=
  match E.fun'.get f with
  | none => none
  | some fn => match fn.body with
    | none => none
    | some c => Tr.putLK args 0 .nil fun t => k ⟨f, max fn.ntmps args.length, t, [.code c], [], .run, kind, none⟩

mutual
def aveq : AV → AV → Bool
  | .bool a, .bool b => a == b
  | .int k a, .int j b => decide (k = j) && decide (a = b)
  | .str l a, .str m b => Nat.beq l m && Nat.beq a b
  | .pnil, .pnil => true
  | .ptr i a, .ptr j b => Nat.beq i j && Nat.beq a b
  | .gptr i a, .gptr j b => Nat.beq i j && Nat.beq a b
  | .snil, .snil => true
  | .slice i a b c, .slice j x y z => Nat.beq i j && Nat.beq a x && Nat.beq b y && Nat.beq c z
  | .gslice i a b c, .gslice j x y z => Nat.beq i j && Nat.beq a x && Nat.beq b y && Nat.beq c z
  | .mnil, .mnil => true
  | .map i, .map j => Nat.beq i j
  | .fnil, .fnil => true
  | .fn f a b, .fn g x y => Nat.beq f g && aveqL a x && aveqL b y
  | .inil, .inil => true
  | .ifc t a, .ifc u b => Nat.beq t u && aveq a b
  | .agg l, .agg m => aveqL l m
  | .tup l, .tup m => aveqL l m
  | _, _ => false
def aveqL : List AV → List AV → Bool
  | [], [] => true
  | a :: l, b :: m => aveq a b && aveqL l m
  | _, _ => false
end

/-- What a call of which we know the end comes to: its arguments, and its value, are plain. -/
def amemo (f : FuncId) (args : List AV) : List (FuncId × List AV × AV) → Option AV
  | [] => none
  | (g, as, v) :: l => match Nat.beq f g && aveqL args as with
    | true => some v
    | false => amemo f args l

/-- The call of a function without a body that we know. -/
def aextern (E : Env) (H : St) (f : FuncId) (args : List AV) (k : AV → St → Option Out) : Option Out :=
  match E.ext.get f, args with
  | some 1, [x] => k x H
  | some 2, [.int .i64 n] => match nat? n with
    | some n => match Nat.ble n 1048576 with
      | true => newBlk H (.cells .nil 0 E.P.rt.byte 1 true) fun id H => k (.gslice id 0 n 1) H
      | false => none
    | none => none
  | some 3, args => match amemo f args E.memo with
    | some v => k v H
    | none => none
  | _, _ => none

def aresults (E : Env) (H : St) (tm : Tr AV) : List ResultVar → Option (List AV)
  | [] => some []
  | .tmp t :: l => match tm.get t with
    | none => none
    | some a => match aresults E H tm l with
      | none => none
      | some r => some (a :: r)
  | .cell p t :: l => match tm.get p with
    | none => none
    | some a => match aload E H t a with
      | none => none
      | some v => match aresults E H tm l with
        | none => none
        | some r => some (v :: r)

def aresult (E : Env) (H : St) (fn : Func) (tm : Tr AV) : Option AV :=
  match aresults E H tm fn.results.toList with
  | none => none
  | some [v] => some v
  | some l => some (.tup l)

/-- What a value that is called comes to: a function with all its arguments; or a round of a loop. -/
def acallee (tm : Tr AV) (c : Call) : Option (AV × List AV) :=
  match c.callee with
  | .value f => match opv tm f, opvs tm c.args.toList with
    | some v, some l => some (v, l)
    | _, _ => none
  | _ => none

/-- The slots of a round, its parameters laid. -/
def roundTmps (t : Tr AV) (n : Nat) : List Tmp → List AV → (Tr AV → Option Out) → Option Out
  | [], [], k => k t
  | p :: ps, a :: as, k => match Nat.blt p n with
    | true => t.setK p (some a) fun t => roundTmps t n ps as k
    | false => none
  | _, _, _ => none

section step
variable (E : Env) (self : List AFr → St → Option Out)

/-- The value `v` comes to the frame that waits for it. -/
def afinish (f : AFr) (fs : List AFr) (v : AV) (H : St) : Option Out :=
  match f with
  | ⟨fn, ntm, tm, todo, ds, md, kd, rnd⟩ => match todo with
    | .ops all (o :: rest) :: k => aput tm o.dst ntm v fun tm => self (⟨fn, ntm, tm, .ops all rest :: k, ds, md, kd, rnd⟩ :: fs) H
    | .inRF l :: k => self (⟨fn, ntm, tm, .endRF l :: k, ds, md, kd, rnd⟩ :: fs) H
    | _ => none

/-- A frame goes back with `v`. -/
def areturn (kind : CallKind) (fs : List AFr) (v : AV) (H : St) : Option Out :=
  match fs with
  | [] => match kind with
    | .normal => some (v, H)
    | _ => none
  | c :: cs => match kind with
    | .normal => afinish self c cs v H
    | .deferred => match c with
      | ⟨fn, ntm, tm, todo, ds, md, kd, rnd⟩ => match md with
        | .pan ((_, true) :: _) => self (⟨fn, ntm, tm, todo, ds, .ret, kd, rnd⟩ :: cs) H
        | _ => self (⟨fn, ntm, tm, todo, ds, md, kd, rnd⟩ :: cs) H
    | _ => none

def aleave (f : AFr) (fs : List AFr) (jump : Option Code) (H : St) : Option Out :=
  match f with
  | ⟨fn, ntm, tm, todo, ds, _, kd, rnd⟩ => match rnd with
    | none => match jump with
      | none | some .ret => self (⟨fn, ntm, tm, todo, ds, .ret, kd, none⟩ :: fs) H
      | _ => none
    | some l => match fs with
      | [] => none
      | _ => match H.blk.get l with
        | some (.loop _ _ fn t n ps as b d) =>
          H.blk.setK l (some (.loop (match jump with | none => .ready | some _ => .done) jump fn t n ps as b d)) fun blk =>
            areturn self kd fs (.bool (match jump with | none => true | some _ => false)) ⟨blk, H.nxt⟩
        | _ => none

/-- Goes into a function value. -/
def ainvoke (f : AFr) (fs : List AFr) (v : AV) (args : List AV) (H : St) : Option Out :=
  match v with
  | .fn g first cap => match E.ext.get g with
    | some _ => aextern E H g (first ++ args ++ cap) fun v H => afinish self f fs v H
    | none => aenter E g (first ++ args ++ cap) .normal fun c => self (c :: f :: fs) H
  | .yield l => match H.blk.get l with
    | some (.loop _ _ fn t n ps as b _) => roundTmps t n ps args fun t =>
      self (⟨fn, n, t, [.code as, .beginRound, .code b], [], .run, .normal, some l⟩ :: f :: fs) H
    | _ => none
  | _ => none

/-- A panic is told to the frame. -/
def araise (f : AFr) (fs : List AFr) (vs : List (AV × Bool)) (H : St) : Option Out :=
  match f with
  | ⟨fn, ntm, tm, todo, ds, md, kd, rnd⟩ => match md with
    | .pan chain => self (⟨fn, ntm, tm, todo, ds, .pan (vs ++ chain), kd, rnd⟩ :: fs) H
    | _ => self (⟨fn, ntm, tm, todo, ds, .pan vs, kd, rnd⟩ :: fs) H

def arecover (f : AFr) (fs : List AFr) (H : St) : Option Out :=
  match f.rnd, f.kind, fs with
  | none, .deferred, ⟨fn, ntm, tm, todo, ds, md, kd, rnd⟩ :: cs => match md with
    | .pan ((v, false) :: older) => afinish self f (⟨fn, ntm, tm, todo, ds, .pan ((v, true) :: older), kd, rnd⟩ :: cs) v H
    | _ => afinish self f fs .inil H
  | none, .normal, _ => afinish self f fs .inil H
  | _, _, _ => none

def adeferred (tm : Tr AV) (c : Call) : Option ADf :=
  match acallee tm c with
  | some (.fn g first cap, args) => some (.call g (first ++ args) cap)
  | _ => none

/-- A call, a deferred one, a panic: the operation `o` of the region; the frame stands at it. -/
def acallop (fn : FuncId) (ntm : Nat) (ds : List ADf) (md : AMode) (kd : CallKind) (rnd : Option Nat) (fs : List AFr) (all : List Oper) (o : Oper) (rest : List Oper) (k : List AIt)
    (tm : Tr AV) (H : St) : Option Out :=
  match o.op with
  | .call c => match c.callee with
    | .builtin _ => arecover self ⟨fn, ntm, tm, .ops all (o :: rest) :: k, ds, md, kd, rnd⟩ fs H
    | _ => match acallee tm c with
      | some (v, args) => ainvoke E self ⟨fn, ntm, tm, .ops all (o :: rest) :: k, ds, md, kd, rnd⟩ fs v args H
      | none => none
  | .defer c => match rnd, adeferred tm c with
    | none, some d => aput tm o.dst ntm (.tup []) fun tm => self (⟨fn, ntm, tm, .ops all rest :: k, d :: ds, md, kd, none⟩ :: fs) H
    | _, _ => none
  | .panic x => match opv tm x with
    | some (.ifc t v) => araise self ⟨fn, ntm, tm, .ops all (o :: rest) :: k, ds, md, kd, rnd⟩ fs [(.ifc t v, false)] H
    | _ => none
  | _ => none

/-- The operations of the frame's region, up to a call. -/
def aops (fn : FuncId) (ntm : Nat) (ds : List ADf) (md : AMode) (kd : CallKind) (rnd : Option Nat) (fs : List AFr) (all : List Oper) (k : List AIt) : List Oper → Tr AV → St → Option Out
  | [], tm, H => self (⟨fn, ntm, tm, k, ds, md, kd, rnd⟩ :: fs) H
  | o :: rest, tm, H => match awanted all tm o with
    | none => none
    | some false => aput tm o.dst ntm (.tup []) fun tm => aops fn ntm ds md kd rnd fs all k rest tm H
    | some true => match cls E o.op with
      | .call => acallop E self fn ntm ds md kd rnd fs all o rest k tm H
      | _ => aop E tm H o.op fun v H => aput tm o.dst ntm v fun tm => aops fn ntm ds md kd rnd fs all k rest tm H

/- A region whose order is drawn: in the text's order, if no order can tell. -/

/-- The operations that stand before each: masks of numbers. -/
def masks : List Oper → List Nat → List Nat
  | [], acc => acc
  | o :: l, acc => masks l (acc ++ [o.after.foldl (fun s e => if Region.binds .any e then s ||| 2 ^ e.on ||| acc.getD e.on 0 else s) 0])

structure DOp where
  o : Oper
  cl : Cls
  mask : Nat
  reads : List Tmp

def tmpsOf : List Operand → List Tmp
  | [] => []
  | .tmp t :: l => t :: tmpsOf l
  | _ :: l => tmpsOf l

def guardTmp (all : List Oper) (o : Oper) : List Tmp :=
  match o.guard with
  | none => []
  | some (j, _) => match all[j]? with
    | none => []
    | some p => p.dst.toList

def dops (E : Env) (all : List Oper) : List Oper → List Nat → List DOp
  | o :: l, m :: ms => ⟨o, cls E o.op, m, guardTmp all o ++ tmpsOf o.op.operands.toList⟩ :: dops E all l ms
  | _, _ => []

def isW : Cls → Bool
  | .write | .call => true
  | _ => false

/-- A state of the text's run. -/
structure DSt where
  tm : Tr AV
  H : St

/-- One call inside such a region, to its end. -/
def acallIn (tm : Tr AV) (c : Call) (H : St) (k : AV → St → Option Out) : Option Out :=
  match acallee tm c with
  | some (.fn g first cap, args) => match E.ext.get g with
    | some _ => aextern E H g (first ++ args ++ cap) k
    | none => aenter E g (first ++ args ++ cap) .normal fun c => match self [c] H with
      | some (v, H) => k v H
      | none => none
  | _ => none

/-- Some slots alone. -/
def restr (tm : Tr AV) : List Tmp → Tr AV → Tr AV
  | [], t => t
  | r :: l, t => restr tm l (t.set r (tm.get r))

/-- What an operation looks at. -/
def looksAt (all : List Oper) (o : Oper) : List Tmp := guardTmp all o ++ tmpsOf o.op.operands.toList

/-- What one operation of such a region comes to: its value, and memory; a block that it makes bears the name `id`. -/
def dvalAt (all : List Oper) (o : Oper) (id : Nat) (s : DSt) : Option (AV × St) :=
  match awanted all s.tm o with
  | none => none
  | some false => some (.tup [], s.H)
  | some true => match cls E o.op with
    | .pure => match apure E s.tm o.op with
      | some v => some (v, s.H)
      | none => none
    | .read => match aread E s.tm s.H o.op with
      | some v => some (v, s.H)
      | none => none
    | .make => match amk E s.tm o.op with
      | some (B, f) => s.H.blk.setK id (some B) fun b => some (f id, ⟨b, s.H.nxt⟩)
      | none => none
    | .write => awrite E s.tm s.H o.op fun v H => some (v, H)
    | .call => match o.op with
      | .call c => acallIn E self s.tm c s.H fun v H => some (v, H)
      | _ => none

def dval (all : List Oper) (o : Oper) (id : Nat) (s : DSt) : Option (AV × St) := dvalAt E self all o id ⟨restr s.tm (looksAt all o) .nil, s.H⟩

/-- The text's run: the states ahead of each operation, and the last. -/
def drun (all : List Oper) (ntm : Nat) : List Oper → Nat → DSt → Option (List DSt × DSt)
  | [], _, s => some ([s], s)
  | o :: l, id, s => match dval E self all o id s with
    | none => none
    | some (v, H) => match aput s.tm o.dst ntm v fun tm => some tm with
      | none => none
      | some tm => match drun all ntm l (Nat.succ id) ⟨tm, H⟩ with
        | none => none
        | some (ss, e) => some (s :: ss, e)

def hasDst (d : DOp) (l : List Tmp) : Bool :=
  match d.o.dst with
  | none => false
  | some t => l.contains t

/-- May the two change places? `d` stands behind `e`. -/
def loose (d e : DOp) : Bool :=
  !(isW d.cl && isW e.cl) && !hasDst e d.reads && !hasDst e d.o.dst.toList && !hasDst d e.reads

/-- Each pair whose order is open may change places; `ds` are all operations, `i` is the number of the first of the list. -/
def orderlyAt (d : DOp) : Nat → List DOp → Bool
  | _, [] => true
  | j, e :: l => (d.mask.testBit j || loose d e) && orderlyAt d (j + 1) l

def orderly (ds : List DOp) : Nat → List DOp → Bool
  | _, [] => true
  | i, d :: l => orderlyAt d 0 (ds.take i) && (match d.o.guard with | none => true | some (g, _) => d.mask.testBit g) && Nat.blt d.mask (2 ^ i) && orderly ds (i + 1) l

/-- What stands of a region beforehand. -/
def drawOK (E : Env) (ops : Array Oper) : Bool :=
  orderly (dops E ops.toList ops.toList (masks ops.toList [])) 0 (dops E ops.toList ops.toList (masks ops.toList [])) &&
    ops.toList.all fun o => o.after.toList.all fun e => Nat.blt e.on ops.size

def drawDs (E : Env) (ops : Array Oper) : List DOp := dops E ops.toList ops.toList (masks ops.toList [])

/-- May operation `i` (with its mask) run where just the writers ahead of place `q` have run? -/
def mayAt (mask i q : Nat) : Nat → List DOp → Bool
  | _, [] => true
  | j, e :: l => (!isW e.cl || ((!mask.testBit j || Nat.blt j q) && (!e.mask.testBit i || Nat.ble q j))) && mayAt mask i q (j + 1) l

/-- The operation reads `v` at every such place. -/
def steadyAt (ds : List DOp) (tm : Tr AV) (d : DOp) (i : Nat) (v : AV) : Nat → List DOp → List DSt → Bool
  | q, [], s :: _ => !mayAt d.mask i q 0 ds || (match aread E tm s.H d.o.op with | some a => aveq a v | none => false)
  | q, e :: l, s :: ss => (!isW e.cl || !mayAt d.mask i q 0 ds || (match aread E tm s.H d.o.op with | some a => aveq a v | none => false)) && steadyAt ds tm d i v (q + 1) l ss
  | _, _, _ => false

def steady (all : List Oper) (ds : List DOp) (sts : List DSt) : Nat → List DOp → List DSt → Bool
  | _, [], _ => true
  | i, d :: l, s :: ss => (match d.cl with
      | .read => match awanted all (restr s.tm d.reads .nil) d.o with
        | some true => match aread E (restr s.tm d.reads .nil) s.H d.o.op with
          | some v => steadyAt E ds (restr s.tm d.reads .nil) d i v 0 ds sts
          | none => false
        | _ => true
      | _ => true) && steady all ds sts (i + 1) l ss
  | _, _, _ => false

def adraw (fn : FuncId) (ntm : Nat) (tm : Tr AV) (ds : List ADf) (md : AMode) (kd : CallKind) (rnd : Option Nat) (fs : List AFr) (ops : Array Oper) (k : List AIt) (H : St) : Option Out :=
  match drawOK E ops with
  | false => none
  | true => match drun E self ops.toList ntm ops.toList H.nxt ⟨tm, ⟨H.blk, H.nxt + ops.toList.length⟩⟩ with
    | none => none
    | some (sts, e) => match steady E ops.toList (drawDs E ops) sts 0 (drawDs E ops) sts with
      | true => self (⟨fn, ntm, e.tm, k, ds, md, kd, rnd⟩ :: fs) e.H
      | false => none

def acode (fn : FuncId) (ntm : Nat) (tm : Tr AV) (ds : List ADf) (md : AMode) (kd : CallKind) (rnd : Option Nat) (fs : List AFr) (c : Code) (k : List AIt) (H : St) : Option Out :=
  match c with
  | .skip | .label _ => self (⟨fn, ntm, tm, k, ds, md, kd, rnd⟩ :: fs) H
  | .seq a b => self (⟨fn, ntm, tm, .code a :: .code b :: k, ds, md, kd, rnd⟩ :: fs) H
  | .cond c a b => match opv tm c with
    | some (.bool true) => self (⟨fn, ntm, tm, .code a :: k, ds, md, kd, rnd⟩ :: fs) H
    | some (.bool false) => self (⟨fn, ntm, tm, .code b :: k, ds, md, kd, rnd⟩ :: fs) H
    | _ => none
  | .block id b => self (⟨fn, ntm, tm, .code b :: .inBlock id :: k, ds, md, kd, rnd⟩ :: fs) H
  | .loop b => self (⟨fn, ntm, tm, .code b :: .inLoop b :: k, ds, md, kd, rnd⟩ :: fs) H
  | .scope b => self (⟨fn, ntm, tm, .code b :: .inScope b :: k, ds, md, kd, rnd⟩ :: fs) H
  | .exit id => match aexitTo id k with
    | some k => self (⟨fn, ntm, tm, k, ds, md, kd, rnd⟩ :: fs) H
    | none => aleave self ⟨fn, ntm, tm, .code (.exit id) :: k, ds, md, kd, rnd⟩ fs (some (.exit id)) H
  | .goto l => match agotoIn l k with
    | some k => self (⟨fn, ntm, tm, k, ds, md, kd, rnd⟩ :: fs) H
    | none => aleave self ⟨fn, ntm, tm, .code (.goto l) :: k, ds, md, kd, rnd⟩ fs (some (.goto l)) H
  | .ret => aleave self ⟨fn, ntm, tm, .code .ret :: k, ds, md, kd, rnd⟩ fs (some .ret) H
  | .rangeFunc x ps as b => match opv tm x with
    | none => none
    | some v => match rnd with
      | some r => match H.blk.get r with
        | some (.loop _ _ _ _ _ _ _ _ d) =>
          newBlk H (.loop .ready none fn tm ntm ps.toList as b d) fun l H =>
            ainvoke E self ⟨fn, ntm, tm, .inRF l :: k, ds, md, kd, some r⟩ fs v [.yield l] H
        | _ => none
      | none => newBlk H (.deferred true) fun d H => newBlk H (.loop .ready none fn tm ntm ps.toList as b d) fun l H =>
        ainvoke E self ⟨fn, ntm, tm, .inRF l :: k, .collected d :: ds, md, kd, none⟩ fs v [.yield l] H
  | .region _ ops dr => match dr with
    | false => aops E self fn ntm ds md kd rnd fs ops.toList k ops.toList tm H
    | true => adraw E self fn ntm tm ds md kd rnd fs ops k H
  | .refuse _ => none

def arunF (fn : FuncId) (ntm : Nat) (tm : Tr AV) (todo : List AIt) (ds : List ADf) (md : AMode) (kd : CallKind) (rnd : Option Nat) (fs : List AFr) (H : St) : Option Out :=
  match todo with
  | [] => aleave self ⟨fn, ntm, tm, [], ds, md, kd, rnd⟩ fs none H
  | it :: k => match it with
    | .code c => acode E self fn ntm tm ds md kd rnd fs c k H
    | .inBlock _ | .inScope _ => self (⟨fn, ntm, tm, k, ds, md, kd, rnd⟩ :: fs) H
    | .inLoop b => self (⟨fn, ntm, tm, .code b :: .inLoop b :: k, ds, md, kd, rnd⟩ :: fs) H
    | .ops all rest => aops E self fn ntm ds md kd rnd fs all k rest tm H
    | .inRF _ => none
    | .endRF l => match H.blk.get l with
      | some (.loop st pend lf t n ps as b d) => match st with
        | .busy => none
        | _ => H.blk.setK l (some (.loop .exhausted pend lf t n ps as b d)) fun blk => match pend with
          | none => self (⟨fn, ntm, tm, k, ds, md, kd, rnd⟩ :: fs) ⟨blk, H.nxt⟩
          | some c => self (⟨fn, ntm, tm, .code c :: k, ds, md, kd, rnd⟩ :: fs) ⟨blk, H.nxt⟩
      | _ => none
    | .beginRound => match rnd with
      | none => none
      | some l => match H.blk.get l with
        | some (.loop .ready pend lf t n ps as b d) => H.blk.setK l (some (.loop .busy pend lf t n ps as b d)) fun blk => self (⟨fn, ntm, tm, k, ds, md, kd, some l⟩ :: fs) ⟨blk, H.nxt⟩
        | _ => none

def aunwind (fn : FuncId) (ntm : Nat) (tm : Tr AV) (todo : List AIt) (ds : List ADf) (md : AMode) (kd : CallKind) (rnd : Option Nat) (fs : List AFr) (H : St) : Option Out :=
  match ds with
  | .collected b :: ds => match H.blk.get b with
    | some (.deferred true) => H.blk.setK b (some (.deferred false)) fun blk => self (⟨fn, ntm, tm, todo, ds, md, kd, rnd⟩ :: fs) ⟨blk, H.nxt⟩
    | _ => none
  | .call g args cap :: ds => match E.ext.get g with
    | some _ => none
    | none => aenter E g (args ++ cap) .deferred fun c => self (c :: ⟨fn, ntm, tm, todo, ds, md, kd, rnd⟩ :: fs) H
  | [] => match md with
    | .pan chain => match fs with
      | c :: cs => araise self c cs chain H
      | [] => none
    | _ => match E.fun'.get fn with
      | none => none
      | some f => match aresult E H f tm with
        | none => none
        | some v => areturn self kd fs v H

def astep (fs : List AFr) (H : St) : Option Out :=
  match fs with
  | [] => none
  | ⟨fn, ntm, tm, todo, ds, md, kd, rnd⟩ :: fs => match md with
    | .run => arunF E self fn ntm tm todo ds .run kd rnd fs H
    | md => aunwind E self fn ntm tm todo ds md kd rnd fs H

end step

def arun (E : Env) : Nat → List AFr → St → Option Out
  | 0, _, _ => none
  | n + 1, fs, H => astep E (arun E n) fs H

/-- A call from nothing. -/
def acall (E : Env) (n : Nat) (f : FuncId) (args : List AV) (H : St) : Option Out :=
  aenter E f args .normal fun c => arun E n [c] H

/- The tables, out of the program. -/

def filterM {α : Type} (f : α → Bool) (x : Option α) : Option α :=
  match x with
  | some a => if f a then some a else none
  | none => none

def tabFrom {α : Type} (f : Nat → Option α) : Nat → Nat → Tr α → Tr α
  | 0, _, t => t
  | n + 1, i, t => tabFrom f n (i + 1) (t.set i (f i))

def tab {α : Type} (f : Nat → Option α) (n : Nat) : Tr α := tabFrom f n 0 .nil

def Env.of (P : Program) (ext : Tr Nat) (glo : Tr (Tr AV)) (memo : List (FuncId × List AV × AV)) : Env :=
  { P, ext, glo, memo
    und := tab P.underlying P.types.size
    siz := tab (fun t => (P.info? t).map (·.size)) P.types.size
    byt := tab (fun t => (P.info? t).map (·.bytes)) P.types.size
    zer := tab (fun t => ((P.info? t).bind (·.zero)).bind cst) P.types.size
    fun' := tab (fun f => filterM (fun fn => fn.body.isSome && fn.name != "runtime.NumGoroutine") P.funcs[f]?) P.funcs.size }

end Go.Gx
