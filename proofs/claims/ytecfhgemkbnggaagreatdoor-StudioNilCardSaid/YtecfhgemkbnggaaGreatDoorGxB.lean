/-
  The soundness of that machine, first part: operations that look at their operands or at memory.
-/
import Derived.Test.YtecfhgemkbnggaaGreatDoorGxA
import Derived.ChangeKeysEq
import Derived.Laws.StructEq
set_option linter.unusedVariables false
set_option linter.unusedSimpArgs false
set_option linter.unusedSectionVars false

namespace Go.Gx
open Go

/- The operations that look at nothing but their operands: what they come to. -/

/-- The tables tell the program. -/
structure Env.Ok (E : Env) : Prop where
  und : ∀ t d, E.und.get t = some d → E.P.underlying t = some d
  siz : ∀ t n, E.siz.get t = some n → ∃ i, E.P.info? t = some i ∧ i.size = n
  byt : ∀ t n, E.byt.get t = some n → ∃ i, E.P.info? t = some i ∧ i.bytes = n
  zer : ∀ t a, E.zer.get t = some a → ∃ i v, E.P.info? t = some i ∧ i.zero = some v ∧ cst v = some a
  fld : ∀ t fs, E.und.get t = some (.struct fs) → ∀ f ∈ fs.toList, ∃ n, E.siz.get f.type = some n
  fun' : ∀ f fn, E.fun'.get f = some fn → E.P.funcs[f]? = some fn ∧ (fn.name == "runtime.NumGoroutine") = false ∧ fn.body.isSome = true

section
variable {E : Env} (hE : E.Ok) {ρ : Ren} {w : World}
include hE

theorem Env.Ok.run_und {t : TypeId} {d : TypeDesc} (h : E.und.get t = some d) : (underlying t).run E.P w = .ok d w := by
  simp [underlying, hE.und t d h]

theorem Env.Ok.run_siz {t : TypeId} {n : Nat} (h : E.siz.get t = some n) : (sizeOf t).run E.P w = .ok n w := by
  obtain ⟨i, hi, rfl⟩ := hE.siz t n h
  simp [sizeOf, typeInfo, hi]

theorem Env.Ok.run_zer {t : TypeId} {a : AV} (h : E.zer.get t = some a) : ∃ v, (zeroValue t).run E.P w = .ok v w ∧ cst v = some a := by
  obtain ⟨i, v, hi, hv, hc⟩ := hE.zer t a h
  exact ⟨v, by simp [zeroValue, typeInfo, hi, hv], hc⟩

theorem Env.Ok.run_agg {t : TypeId} {b : Bool} (h : isAggB E t = some b) : (isAgg t).run E.P w = .ok b w := by
  unfold isAggB at h
  cases hu : E.und.get t with
  | none => rw [hu] at h; cases h
  | some d =>
    rw [hu] at h
    have := hE.run_und (w := w) hu
    unfold isAgg
    cases d <;> simp at h <;> subst h <;> simp [this]
end

@[simp] theorem Addr.add_none (b off n : Nat) : (⟨b, off, none⟩ : Addr).add n = ⟨b, off + n, none⟩ := by
  unfold Addr.add; by_cases h : n = 0 <;> simp [h]

theorem bl_num : ∀ l : List UInt8, bl l.length (num l) = l
  | [] => rfl
  | b :: l => by
    have hb := b.toNat_lt
    show UInt8.ofNat ((b.toNat + 256 * num l) % 256) :: bl l.length ((b.toNat + 256 * num l) / 256) = b :: l
    have h1 : (b.toNat + 256 * num l) % 256 = b.toNat := by omega
    have h2 : (b.toNat + 256 * num l) / 256 = num l := by omega
    rw [h1, h2, bl_num l]
    simp

theorem num_lt : ∀ l : List UInt8, num l < 256 ^ l.length
  | [] => by simp [num]
  | b :: l => by
    have hb := b.toNat_lt
    have := num_lt l
    show b.toNat + 256 * num l < 256 ^ (l.length + 1)
    rw [Nat.pow_succ]
    omega

theorem strV_num (s : ByteArray) : strV s.data.toList.length (num s.data.toList) = s := by
  unfold strV; rw [bl_num]

theorem cst0_rv {ρ : Ren} {v : Value} {a : AV} (h : cst0 v = some a) : Rv ρ a v := by
  unfold cst0 at h
  split at h <;> first | cases h | skip
  · exact .bool _
  · exact .int _ _
  · rename_i s
    have := Rv.str (ρ := ρ) (num_lt s.data.toList)
    rwa [strV_num] at this
  · exact .pnil
  · exact .snil
  · exact .mnil
  · exact .fnil
  · exact .inil

theorem cstL_rv {ρ : Ren} : ∀ {vs : List Value} {l : List AV}, cstL vs = some l → RvL ρ l vs
  | [], l, h => by simp only [cstL, Option.some.injEq] at h; subst h; exact .nil
  | v :: vs, l, h => by
    simp only [cstL] at h
    split at h
    · cases h
    · rename_i a ha
      split at h
      · cases h
      · rename_i l' hl
        simp only [Option.some.injEq] at h
        subst h
        exact .cons (cst0_rv ha) (cstL_rv hl)

theorem cst_rv {ρ : Ren} {v : Value} {a : AV} (h : cst v = some a) : Rv ρ a v := by
  unfold cst at h
  split at h
  · split at h
    · cases h
    · rename_i l hl
      simp only [Option.some.injEq] at h
      subst h
      exact .agg (cstL_rv hl)
  · exact cst0_rv h

/-- Operands against operands. -/
def EvR (ρ : Ren) (tm : Tr AV) (ev : Operand → Value) : Prop := ∀ x a, opv tm x = some a → Rv ρ a (ev x)

theorem EvR.of_tmps {ρ : Ren} {tm : Tr AV} {n : Nat} {vs : Array Value} (h : RvT ρ tm n vs) {ev : Operand → Value}
    (h1 : ∀ t, ev (.tmp t) = vs.getD t undef) (h2 : ∀ v, ev (.const v) = v) (h3 : ∀ g, ev (.global g) = .pointer (some ⟨g, 0, none⟩)) (h4 : ∀ f, ev (.func f) = .func (.func f) #[] #[]) :
    EvR ρ tm ev := by
  intro x a hx
  cases x with
  | tmp t =>
    obtain ⟨_, v, hv, hr⟩ := h.2 t a hx
    rw [h1, Array.getD_eq_getD_getElem?, hv]; exact hr
  | const v => rw [h2]; exact cst_rv hx
  | global g => rw [h3]; simp only [opv, Option.some.injEq] at hx; subst hx; exact .gptr
  | func f => rw [h4]; simp only [opv, Option.some.injEq] at hx; subst hx; exact .fn .nil .nil

theorem opvs_rv {ρ : Ren} {tm : Tr AV} {ev : Operand → Value} (h : EvR ρ tm ev) : ∀ {xs : List Operand} {l : List AV}, opvs tm xs = some l → RvL ρ l (xs.map ev)
  | [], l, e => by simp only [opvs, Option.some.injEq] at e; subst e; exact .nil
  | x :: xs, l, e => by
    simp only [opvs] at e
    split at e
    · cases e
    · rename_i a ha
      split at e
      · cases e
      · rename_i r hr
        simp only [Option.some.injEq] at e
        subst e
        exact .cons (h x a ha) (opvs_rv h hr)

/-- What one operation comes to. -/
def Gives (P : Program) (w : World) (s : Sem Value) (ρ : Ren) (a : AV) : Prop := ∃ v, s.run P w = .ok v w ∧ Rv ρ a v

theorem nat?_eq {i : Int} {n : Nat} (h : nat? i = some n) : i = (n : Int) := by
  cases i with
  | ofNat m => simp only [nat?, Option.some.injEq] at h; subst h; rfl
  | negSucc m => cases h

theorem blt_lt {a b : Nat} (h : Nat.blt a b = true) : a < b := Nat.le_of_ble_eq_true h

section
variable {E : Env} (hE : E.Ok) {ρ : Ren} {w : World}
include hE

theorem fieldAddr_ok {s : TypeId} {x : AV} {f : Nat} {a : AV} {vx : Value} (h : afieldAddr E s x f = some a) (hx : Rv ρ x vx) : Gives E.P w (Instr.fieldAt s vx f) ρ a := by
  unfold afieldAddr at h
  split at h
  · rename_i fs hs
    split at h
    · cases h
    · rename_i fd hf
      split at h
      · rename_i n hn
        have h1 := hE.run_und (w := w) hs
        have h2 := hE.run_siz (w := w) hn
        split at h
        · simp only [Option.some.injEq] at h; subst h
          cases hx with
          | ptr hk => exact ⟨_, by simp [Instr.fieldAt, Instr.sureAddr, fieldPlace, h1, hf, h2], .ptr hk⟩
        · simp only [Option.some.injEq] at h; subst h
          cases hx with
          | gptr => exact ⟨_, by simp [Instr.fieldAt, Instr.sureAddr, fieldPlace, h1, hf, h2], .gptr⟩
        · cases h
      · cases h
  · cases h

theorem indexAddr_ok {t : TypeId} {x ix : AV} {a : AV} {vx vi : Value} (h : aindexAddr E t x ix = some a) (hx : Rv ρ x vx) (hi : Rv ρ ix vi) : Gives E.P w (Instr.indexAt t vx vi) ρ a := by
  unfold aindexAddr at h
  split at h
  · rename_i k i
    split at h
    · cases h
    · rename_i n hn
      have hin := nat?_eq hn
      subst hin
      cases hi
      split at h <;> first | cases h | skip
      all_goals
        rename_i hu
        split at h
        · rename_i sz hb hs
          simp only [Option.some.injEq] at h; subst h
          have hlt := blt_lt hb
          have h1 := hE.run_und (w := w) hu
          have h2 := hE.run_siz (w := w) hs
          cases hx
          all_goals first
            | (refine ⟨_, by simp [Instr.indexAt, asIntOf, Instr.sureAddr, h1, h2, hlt]; rfl, ?_⟩; first | exact .gptr | (refine .ptr ?_; assumption))
            | (simp at hlt)
        · cases h
  · cases h

end

end Go.Gx

namespace Go.Gx
open Go

/- Numbers as strings of bytes. -/

theorem bl_length : ∀ (k n : Nat), (bl k n).length = k
  | 0, _ => rfl
  | k + 1, n => by simp [bl, bl_length k]

theorem bl_get : ∀ (k n i : Nat), i < k → (bl k n)[i]? = some (UInt8.ofNat (byteAt n i))
  | 0, _, _, h => by omega
  | k + 1, n, 0, _ => by
    show some (UInt8.ofNat (n % 256)) = some (UInt8.ofNat (n / 256 ^ 0 % 256))
    rw [Nat.pow_zero, Nat.div_one]
  | k + 1, n, i + 1, h => by
    simp only [bl, List.getElem?_cons_succ]
    rw [bl_get k (n / 256) i (by omega)]
    simp only [byteAt]
    show some (UInt8.ofNat (n / 256 / 256 ^ i % 256)) = some (UInt8.ofNat (n / 256 ^ (i + 1) % 256))
    rw [Nat.div_div_eq_div_mul, Nat.pow_succ, Nat.mul_comm 256]

theorem byteAt_lt (n i : Nat) : byteAt n i < 256 := Nat.mod_lt _ (by omega)

theorem toNat_byteAt (n i : Nat) : (UInt8.ofNat (byteAt n i)).toNat = byteAt n i := by
  have := byteAt_lt n i
  simp; omega

theorem bl_drop : ∀ (l k n : Nat), (bl k n).drop l = bl (k - l) (n / 256 ^ l)
  | 0, k, n => by simp
  | l + 1, 0, n => by simp [bl]
  | l + 1, k + 1, n => by
    simp only [bl, List.drop_succ_cons]
    rw [bl_drop l k (n / 256), Nat.div_div_eq_div_mul, Nat.pow_succ, Nat.mul_comm 256]
    congr 1
    omega

theorem bl_take : ∀ (l k n : Nat), l ≤ k → (bl k n).take l = bl l n
  | 0, k, n, _ => by simp [bl]
  | l + 1, 0, n, h => by omega
  | l + 1, k + 1, n, h => by
    simp only [bl, List.take_succ_cons]
    rw [bl_take l k _ (by omega)]

theorem bl_mod : ∀ (k n : Nat), bl k (n % 256 ^ k) = bl k n
  | 0, _ => rfl
  | k + 1, n => by
    simp only [bl]
    have h1 : n % 256 ^ (k + 1) % 256 = n % 256 := Nat.mod_mod_of_dvd _ ⟨256 ^ k, by rw [Nat.pow_succ, Nat.mul_comm]⟩
    have h2 : n % 256 ^ (k + 1) / 256 = n / 256 % 256 ^ k := by
      rw [Nat.pow_succ, Nat.mul_comm, Nat.mod_mul_right_div_self]
    rw [h1, h2, bl_mod k]

theorem bl_append : ∀ (a b x y : Nat), x < 256 ^ a → bl (a + b) (x + 256 ^ a * y) = bl a x ++ bl b y
  | 0, b, x, y, h => by
    have : x = 0 := by simpa using h
    subst this
    simp [bl]
  | a + 1, b, x, y, h => by
    have e : a + 1 + b = (a + b) + 1 := by omega
    rw [e]
    simp only [bl, List.cons_append]
    have h1 : (x + 256 ^ (a + 1) * y) % 256 = x % 256 := by
      rw [Nat.pow_succ, Nat.mul_comm (256 ^ a), Nat.mul_assoc, Nat.add_mul_mod_self_left]
    have h2 : (x + 256 ^ (a + 1) * y) / 256 = x / 256 + 256 ^ a * y := by
      rw [Nat.pow_succ, Nat.mul_comm (256 ^ a), Nat.mul_assoc, Nat.add_mul_div_left _ _ (by omega)]
    rw [h1, h2, bl_append a b (x / 256) y (by rw [Nat.pow_succ] at h; omega)]

theorem append_lt {a b x y : Nat} (hx : x < 256 ^ a) (hy : y < 256 ^ b) : x + 256 ^ a * y < 256 ^ (a + b) := by
  rw [Nat.pow_add]
  have : 256 ^ a * (y + 1) ≤ 256 ^ a * 256 ^ b := Nat.mul_le_mul_left _ hy
  rw [Nat.mul_add] at this
  omega

theorem num_bl : ∀ (k n : Nat), n < 256 ^ k → num (bl k n) = n
  | 0, n, h => by have : n = 0 := by simpa using h
                  subst this; rfl
  | k + 1, n, h => by
    simp only [bl, num]
    rw [num_bl k (n / 256) (by rw [Nat.pow_succ] at h; omega)]
    have := toNat_byteAt n 0
    have e : byteAt n 0 = n % 256 := by simp [byteAt]; show n / 1 % 256 = n % 256; rw [Nat.div_one]
    rw [e] at this
    rw [this]
    omega

theorem bl_inj {l m a b : Nat} (ha : a < 256 ^ l) (hb : b < 256 ^ m) (h : bl l a = bl m b) : l = m ∧ a = b := by
  have h1 : l = m := by have := congrArg List.length h; simpa [bl_length] using this
  subst h1
  refine ⟨rfl, ?_⟩
  have := congrArg num h
  rwa [num_bl _ _ ha, num_bl _ _ hb] at this

theorem strV_size (l n : Nat) : (strV l n).size = l := by
  show (bl l n).toArray.size = l
  simp [bl_length]

theorem get?_mk (l : List UInt8) (i : Nat) : (ByteArray.mk l.toArray)[i]? = l[i]? := by
  by_cases h : i < l.length
  · rw [getElem?_pos (ByteArray.mk l.toArray) i (by simpa [ByteArray.size] using h), List.getElem?_eq_getElem h]
    rfl
  · rw [getElem?_neg (ByteArray.mk l.toArray) i (by simpa [ByteArray.size] using h), List.getElem?_eq_none (by omega)]

theorem strV_get (l n i : Nat) (h : i < l) : (strV l n)[i]? = some (UInt8.ofNat (byteAt n i)) := by
  unfold strV; rw [get?_mk, bl_get l n i h]

theorem strV_append {l m a b : Nat} (ha : a < 256 ^ l) : strV l a ++ strV m b = strV (l + m) (a + 256 ^ l * b) := by
  apply ByteArray.ext
  rw [ByteArray.data_append]
  show (bl l a).toArray ++ (bl m b).toArray = (bl (l + m) (a + 256 ^ l * b)).toArray
  rw [bl_append _ _ _ _ ha]
  simp

theorem strV_extract {k n l h : Nat} (hl : l ≤ h) (hh : h ≤ k) : (strV k n).extract l h = strV (h - l) (sub256 n l h) := by
  apply ByteArray.ext
  rw [ByteArray.data_extract]
  show (bl k n).toArray.extract l h = (bl (h - l) (sub256 n l h)).toArray
  have e : bl (h - l) (sub256 n l h) = ((bl k n).drop l).take (h - l) := by
    rw [bl_drop, bl_take _ _ _ (by omega)]
    exact bl_mod _ _
  rw [e]
  apply Array.ext'
  simp

end Go.Gx

namespace Go.Gx
open Go

theorem pow256_pos (k : Nat) : 0 < 256 ^ k := Nat.pos_of_ne_zero (by simp)

theorem one_cells {ρ : Ren} {a : AV} {v : Value} (h : Rv ρ a v) (ho : a.one = true) : v.cells = #[v] ∧ v.oneCell' = true := by
  cases h <;> first | (simp [AV.one] at ho; done) | exact ⟨rfl, rfl⟩

theorem cells?_rv {ρ : Ren} {a : AV} {v : Value} {l : List AV} (h : Rv ρ a v) (hc : a.cells? = some l) : RvL ρ l v.cells.toList ∧ l.all AV.one = true := by
  unfold AV.cells? at hc
  split at hc
  · rename_i m
    split at hc
    · rename_i hm
      simp only [Option.some.injEq] at hc; subst hc
      cases h with
      | agg hl => exact ⟨hl, hm⟩
    · cases hc
  · split at hc
    · rename_i hm
      simp only [Option.some.injEq] at hc; subst hc
      rw [(one_cells h hm).1]
      exact ⟨.cons h .nil, by simpa using hm⟩
    · cases hc

theorem RvL.one_all {ρ : Ren} : ∀ {l : List AV} {vs : List Value}, RvL ρ l vs → l.all AV.one = true → ∀ v ∈ vs, v.oneCell' = true
  | _, _, .nil, _, v, hv => by cases hv
  | _, _, .cons e r, h, v, hv => by
    simp only [List.all_cons, Bool.and_eq_true] at h
    rcases List.mem_cons.1 hv with rfl | hv
    · exact (one_cells e h.1).2
    · exact r.one_all h.2 v hv

/-- Cells laid over cells. -/
theorem foldl_over (off : Nat) : ∀ (l : List Value) (k : Nat) (cs : Array Value), 
    ((l.zipIdx k).foldl (fun cs (c, j) => cs.setIfInBounds (off + j) c) cs).size = cs.size ∧
    ∀ j, ((l.zipIdx k).foldl (fun cs (c, j) => cs.setIfInBounds (off + j) c) cs)[j]? = if off + k ≤ j ∧ j < off + k + l.length ∧ j < cs.size then l[j - (off + k)]? else cs[j]?
  | [], k, cs => by
    refine ⟨rfl, fun j => ?_⟩
    rw [if_neg (by simp only [List.length_nil]; omega)]; rfl
  | c :: l, k, cs => by
    obtain ⟨h1, h2⟩ := foldl_over off l (k + 1) (cs.setIfInBounds (off + k) c)
    simp only [List.zipIdx_cons, List.foldl_cons]
    refine ⟨by rw [h1]; simp, fun j => ?_⟩
    rw [h2]
    simp only [Array.size_setIfInBounds, List.length_cons]
    by_cases hj : off + (k + 1) ≤ j ∧ j < off + (k + 1) + l.length ∧ j < cs.size
    · rw [if_pos hj, if_pos (by omega)]
      rw [show j - (off + k) = (j - (off + (k + 1))) + 1 by omega, List.getElem?_cons_succ]
    · rw [if_neg hj]
      by_cases hjk : j = off + k
      · subst hjk
        by_cases hs : off + k < cs.size
        · rw [if_pos (by omega), Array.getElem?_setIfInBounds_self_of_lt hs]; simp
        · rw [if_neg (by omega)]
          rw [Array.getElem?_eq_none (by simp; omega), Array.getElem?_eq_none (by omega)]
      · rw [Array.getElem?_setIfInBounds_ne (by omega), if_neg (by omega)]

theorem over_rv {ρ : Ren} {cs l : List AV} {vs : Array Value} {ws : Array Value} {off : Nat} (h : RvL ρ cs vs.toList) (hl : RvL ρ l ws.toList) (hle : off + l.length ≤ cs.length) :
    RvL ρ (over cs off l) (ws.zipIdx.foldl (fun cs (c, j) => cs.setIfInBounds (off + j) c) vs).toList := by
  have hlen := h.length
  have hlen2 := hl.length
  obtain ⟨h1, h2⟩ := foldl_over off ws.toList 0 vs
  have e : ws.zipIdx.foldl (fun cs (c, j) => cs.setIfInBounds (off + j) c) vs = (ws.toList.zipIdx).foldl (fun cs (c, j) => cs.setIfInBounds (off + j) c) vs := by
    rw [← Array.foldl_toList]; simp
  rw [e]
  simp only [Array.length_toList] at hlen hlen2
  have hol : (over cs off l).length = cs.length := by
    simp only [over, List.length_append, List.length_take, List.length_drop]; omega
  refine RvL.of_get _ _ (by rw [hol, Array.length_toList]; exact hlen.trans h1.symm) fun i a ha => ?_
  rw [Array.getElem?_toList, h2]
  have hi : i < cs.length := by
    rw [← hol]
    exact (List.getElem?_eq_some_iff.1 ha).1
  unfold over at ha
  by_cases h3 : i < off
  · rw [List.append_assoc, List.getElem?_append_left (by simp; omega), List.getElem?_take_of_lt h3] at ha
    rw [if_neg (by omega)]
    obtain ⟨v, hv, hr⟩ := h.get ha
    exact ⟨v, by simpa using hv, hr⟩
  · rw [List.append_assoc, List.getElem?_append_right (by simp; omega)] at ha
    simp only [List.length_take] at ha
    rw [show min off cs.length = off by omega] at ha
    by_cases h4 : i < off + l.length
    · rw [List.getElem?_append_left (by omega)] at ha
      rw [if_pos (by simp only [Array.length_toList]; omega)]
      obtain ⟨v, hv, hr⟩ := hl.get ha
      exact ⟨v, by simpa using hv, hr⟩
    · rw [List.getElem?_append_right (by omega), List.getElem?_drop] at ha
      rw [if_neg (by simp only [Array.length_toList]; omega)]
      rw [show off + l.length + (i - off - l.length) = i by omega] at ha
      obtain ⟨v, hv, hr⟩ := h.get ha
      exact ⟨v, by simpa using hv, hr⟩

/-- Parts against parts. -/
inductive RvP (ρ : Ren) : List (Nat × AV) → List (Nat × Value) → Prop
  | nil : RvP ρ [] []
  | cons {i : Nat} {a : AV} {v : Value} {l : List (Nat × AV)} {vs : List (Nat × Value)} : Rv ρ a v → RvP ρ l vs → RvP ρ ((i, a) :: l) ((i, v) :: vs)

theorem partsL_rv {ρ : Ren} {tm : Tr AV} {ev : Operand → Value} (h : EvR ρ tm ev) : ∀ {xs : List (Nat × Operand)} {l : List (Nat × AV)}, partsL tm xs = some l →
    RvP ρ l (xs.map fun (i, x) => (i, ev x))
  | [], l, e => by simp only [partsL, Option.some.injEq] at e; subst e; exact .nil
  | (i, x) :: xs, l, e => by
    simp only [partsL] at e
    split at e
    · cases e
    · rename_i a ha
      split at e
      · cases e
      · rename_i r hr
        simp only [Option.some.injEq] at e
        subst e
        exact .cons (h x a ha) (partsL_rv h hr)

theorem fill_rv {ρ : Ren} {place : Nat → Option (Nat × Nat)} {place' : Nat → Option (Nat × Nat)} (hp : ∀ i x, place i = some x → place' i = some x) :
    ∀ {l : List (Nat × AV)} {vs : List (Nat × Value)} {cs : List AV} {r : List AV} {ws : Array Value}, RvP ρ l vs → RvL ρ cs ws.toList → fillL place cs l = some r →
      ∃ ws', Instr.fill place' ws vs = some ws' ∧ RvL ρ r ws'.toList
  | [], _, cs, r, ws, .nil, hc, h => by
    simp only [fillL, Option.some.injEq] at h; subst h
    exact ⟨ws, rfl, hc⟩
  | (i, a) :: l, _, cs, r, ws, .cons (v := v) (vs := vs) ha hl, hc, h => by
    simp only [fillL] at h
    split at h
    · cases h
    · rename_i off size hpl
      split at h
      · cases h
      · rename_i m hm
        split at h
        · rename_i hb
          simp only [Bool.and_eq_true] at hb
          have h1 := Nat.eq_of_beq_eq_true hb.1
          have h2 := Nat.le_of_ble_eq_true hb.2
          obtain ⟨hv, _⟩ := cells?_rv ha hm
          have hlen := hv.length
          have hlen' := hc.length
          simp only [Array.length_toList] at hlen hlen'
          have hover := over_rv hc hv h2
          obtain ⟨ws', hw, hr⟩ := fill_rv hp hl hover h
          refine ⟨ws', ?_, hr⟩
          simp only [Instr.fill, hp i _ hpl]
          rw [if_neg (by simp; omega)]
          exact hw
        · cases h

section
variable {E : Env} (hE : E.Ok) {ρ : Ren} {w : World}
include hE

theorem part_ok {t : TypeId} {cs : List AV} {off : Nat} {a : AV} {vs : Array Value} (h : part? E t cs off = some a) (hc : RvL ρ cs vs.toList) : Gives E.P w (part t vs off) ρ a := by
  unfold part? at h
  split at h
  · cases h
  · rename_i ht
    split at h
    · cases h
    · rename_i n hn
      simp only [Option.some.injEq] at h; subst h
      have h1 := hE.run_agg (w := w) ht
      have h2 := hE.run_siz (w := w) hn
      refine ⟨.agg (vs.extract off (off + n)), by simp [part, h1, h2], .agg ?_⟩
      have := (hc.drop off).take n
      have e : (vs.extract off (off + n)).toList = (vs.toList.drop off).take n := by
        simp [List.take_drop]
      rw [e]; exact this
  · rename_i ht
    have h1 := hE.run_agg (w := w) ht
    obtain ⟨v, hv, hr⟩ := hc.get h
    simp only [Array.getElem?_toList] at hv
    exact ⟨v, by simp [part, h1, hv], hr⟩

theorem index_ok {t : TypeId} {x ix : AV} {a : AV} {vx vi : Value} (h : aindex E t x ix = some a) (hx : Rv ρ x vx) (hi : Rv ρ ix vi) : Gives E.P w (Instr.index t vx vi) ρ a := by
  unfold aindex at h
  split at h
  · rename_i k i
    split at h
    · cases h
    · rename_i n hn
      have hin := nat?_eq hn
      subst hin
      cases hi
      split at h
      · rename_i len elem cs hu
        split at h
        · rename_i sz hb hs
          have hlt := blt_lt hb
          have h1 := hE.run_und (w := w) hu
          have h2 := hE.run_siz (w := w) hs
          cases hx with
          | agg hc =>
            obtain ⟨v, hv, hr⟩ := part_ok hE (w := w) h hc
            exact ⟨v, by simp [Instr.index, asIntOf, h1, h2, hlt, hv], hr⟩
        · cases h
      · rename_i len n' hu
        split at h
        · rename_i hb
          simp only [Option.some.injEq] at h; subst h
          have hlt := blt_lt hb
          have h1 := hE.run_und (w := w) hu
          cases hx with
          | str hn =>
            have hg := strV_get len n' n hlt
            have hb := toNat_byteAt n' n
            refine ⟨.int .u8 (Int.ofNat (byteAt n' n)), ?_, .int _ _⟩
            simp [Instr.index, asIntOf, h1, hg]
            have := byteAt_lt n' n
            omega
        · cases h
      · cases h
  · cases h

end

/-- Options against options. -/
inductive RvO (ρ : Ren) : Option AV → Option Value → Prop
  | none : RvO ρ none none
  | some {a : AV} {v : Value} : Rv ρ a v → RvO ρ (some a) (some v)

theorem RvO.isSome {ρ : Ren} {x : Option AV} {v : Option Value} (h : RvO ρ x v) : v.isSome = x.isSome := by cases h <;> rfl

theorem bnd_ok {P : Program} {w : World} {ρ : Ren} {x : AV} {dflt y n : Nat} {v : Value} {code : BoundsCode} (h : abnd (some x) dflt y = some n) (hx : Rv ρ x v) :
    (Instr.sliceBound v y code).run P w = .ok n w ∧ n ≤ y := by
  unfold abnd at h
  split at h
  · rename_i e; cases e
  · rename_i k i e
    cases e
    split at h
    · rename_i m hm
      split at h
      · rename_i hb
        simp only [Option.some.injEq] at h; subst h
        have := nat?_eq hm
        subst this
        have hle := Nat.le_of_ble_eq_true hb
        cases hx
        exact ⟨by simp [Instr.sliceBound, asIntOf, hle], hle⟩
      · cases h
    · cases h
  · cases h

theorem abnds_nn (len cap : Nat) (lo : Option AV) : abnds len cap lo none none = match abnd lo 0 len with | none => none | some l => some (l, len, cap) := rfl
theorem abnds_sn (len cap : Nat) (lo : Option AV) (a : AV) : abnds len cap lo (some a) none = match abnd (some a) len cap with | none => none | some h => match abnd lo 0 h with | none => none | some l => some (l, h, cap) := rfl
theorem abnds_ss (len cap : Nat) (lo : Option AV) (a b : AV) : abnds len cap lo (some a) (some b) = match abnd (some b) cap cap with
    | none => none
    | some m => match abnd (some a) len m with | none => none | some h => match abnd lo 0 h with | none => none | some l => some (l, h, m) := rfl

theorem bnds_ok {P : Program} {w : World} {ρ : Ren} {isSlice : Bool} {len cap l h m : Nat} {lo hi mx : Option AV} {vlo vhi vmx : Option Value}
    (e : abnds len cap lo hi mx = some (l, h, m)) (hlo : RvO ρ lo vlo) (hhi : RvO ρ hi vhi) (hmx : RvO ρ mx vmx) :
    (Instr.sliceBounds isSlice len cap vlo vhi vmx).run P w = .ok (l, h, m) w ∧ l ≤ h ∧ (hi.isSome → h ≤ m) ∧ m ≤ cap ∧ (mx = none → m = cap) ∧ (hi = none → h = len) := by
  have keylo : ∀ (h : Nat) (code : BoundsCode), abnd lo 0 h = some l → (∀ v, vlo = some v → (Instr.sliceBound v h code).run P w = .ok l w) ∧ (vlo = none → l = 0) ∧ l ≤ h := by
    intro h code e
    cases hlo with
    | none => simp only [abnd, Option.some.injEq] at e; subst e; exact ⟨by simp, by simp, by omega⟩
    | some hv => obtain ⟨h1, h2⟩ := bnd_ok (P := P) (w := w) (code := code) e hv; exact ⟨by simp [h1], by simp, h2⟩
  cases hmx with
  | none =>
    cases hhi with
    | none =>
      rw [abnds_nn] at e
      cases hl : abnd lo 0 len with
      | none => rw [hl] at e; cases e
      | some l' =>
        rw [hl] at e
        simp only [Option.some.injEq, Prod.mk.injEq] at e
        obtain ⟨rfl, rfl, rfl⟩ := e
        obtain ⟨k1, k2, k3⟩ := keylo _ .sliceB hl
        refine ⟨?_, k3, by simp, Nat.le_refl _, by simp, by simp⟩
        cases hlo with
        | none => simp [Instr.sliceBounds, k2 rfl]
        | some hv => simp [Instr.sliceBounds, k1 _ rfl]
    | some hv =>
      rename_i a va
      rw [abnds_sn] at e
      cases hh : abnd (some a) len cap with
      | none => rw [hh] at e; cases e
      | some h' =>
        rw [hh] at e
        simp only at e
        cases hl : abnd lo 0 h' with
        | none => rw [hl] at e; cases e
        | some l' =>
          rw [hl] at e
          simp only [Option.some.injEq, Prod.mk.injEq] at e
          obtain ⟨rfl, rfl, rfl⟩ := e
          obtain ⟨g1, g2⟩ := bnd_ok (P := P) (w := w) (code := if isSlice then .sliceAcap else .sliceAlen) (dflt := len) hh hv
          obtain ⟨k1, k2, k3⟩ := keylo _ .sliceB hl
          refine ⟨?_, k3, fun _ => g2, Nat.le_refl _, by simp, by simp⟩
          cases hlo with
          | none => simp [Instr.sliceBounds, g1, k2 rfl]
          | some hv => simp [Instr.sliceBounds, g1, k1 _ rfl]
  | some hm =>
    rename_i b vb
    cases hhi with
    | none => simp [abnds] at e
    | some hv =>
      rename_i a va
      rw [abnds_ss] at e
      cases hmm : abnd (some b) cap cap with
      | none => rw [hmm] at e; cases e
      | some m' =>
        rw [hmm] at e
        simp only at e
        cases hh : abnd (some a) len m' with
        | none => rw [hh] at e; cases e
        | some h' =>
          rw [hh] at e
          simp only at e
          cases hl : abnd lo 0 h' with
          | none => rw [hl] at e; cases e
          | some l' =>
            rw [hl] at e
            simp only [Option.some.injEq, Prod.mk.injEq] at e
            obtain ⟨rfl, rfl, rfl⟩ := e
            obtain ⟨f1, f2⟩ := bnd_ok (P := P) (w := w) (code := if isSlice then .slice3Acap else .slice3Alen) (dflt := cap) hmm hm
            obtain ⟨g1, g2⟩ := bnd_ok (P := P) (w := w) (code := .slice3B) (dflt := len) hh hv
            obtain ⟨k1, k2, k3⟩ := keylo _ .slice3C hl
            refine ⟨?_, k3, fun _ => g2, f2, by simp, by simp⟩
            cases hlo with
            | none => simp [Instr.sliceBounds, f1, g1, k2 rfl]
            | some hv => simp [Instr.sliceBounds, f1, g1, k1 _ rfl]

theorem bnds_ok' {P : Program} {w : World} {ρ : Ren} {len c l h m : Nat} {lo hi : Option AV} {vlo vhi : Option Value}
    (e : abnds len len lo hi none = some (l, h, m)) (hc : len ≤ c) (hlo : RvO ρ lo vlo) (hhi : RvO ρ hi vhi) :
    (Instr.sliceBounds true len c vlo vhi none).run P w = .ok (l, h, c) w ∧ l ≤ h ∧ h ≤ len := by
  have keyhi : ∀ (x : Option AV) (vx : Option Value), RvO ρ x vx → abnds len len lo x none = some (l, h, m) → (∀ v, vx = some v → (Instr.sliceBound v c .sliceAcap).run P w = .ok h w) ∧ (vx = none → h = len) ∧ h ≤ len ∧ abnd lo 0 h = some l := by
    intro x vx hx e
    cases hx with
    | none =>
      rw [abnds_nn] at e
      cases hl : abnd lo 0 len with
      | none => rw [hl] at e; cases e
      | some l' =>
        rw [hl] at e
        simp only [Option.some.injEq, Prod.mk.injEq] at e
        obtain ⟨rfl, rfl, rfl⟩ := e
        exact ⟨by simp, by simp, Nat.le_refl _, hl⟩
    | some hv =>
      rename_i a v
      rw [abnds_sn] at e
      cases hi' : abnd (some a) len len with
      | none => rw [hi'] at e; cases e
      | some h' =>
        rw [hi'] at e
        simp only at e
        cases hl : abnd lo 0 h' with
        | none => rw [hl] at e; cases e
        | some l' =>
          rw [hl] at e
          simp only [Option.some.injEq, Prod.mk.injEq] at e
          obtain ⟨rfl, rfl, rfl⟩ := e
          have hle : h' ≤ len := (bnd_ok (P := P) (w := w) (code := .sliceAcap) hi' hv).2
          refine ⟨fun v' ev => ?_, by simp, hle, hl⟩
          cases ev
          have : abnd (some a) len c = some h' := by
            unfold abnd at hi' ⊢
            cases a with
            | int k i =>
              simp only at hi' ⊢
              cases hn : nat? i with
              | none => rw [hn] at hi'; cases hi'
              | some q =>
                rw [hn] at hi'
                simp only at hi' ⊢
                cases hq : Nat.ble q len with
                | false => rw [hq] at hi'; cases hi'
                | true =>
                  rw [hq] at hi'
                  simp only [Option.some.injEq] at hi'
                  have := Nat.le_of_ble_eq_true hq
                  rw [Nat.ble_eq_true_of_le (by omega : q ≤ c), ← hi']
            | _ => cases hi'
          exact (bnd_ok this hv).1
  obtain ⟨k1, k2, k3, k4⟩ := keyhi hi vhi hhi e
  have keylo : (∀ v, vlo = some v → (Instr.sliceBound v h .sliceB).run P w = .ok l w) ∧ (vlo = none → l = 0) ∧ l ≤ h := by
    cases hlo with
    | none => simp only [abnd, Option.some.injEq] at k4; subst k4; exact ⟨by simp, by simp, by omega⟩
    | some hv => obtain ⟨h1, h2⟩ := bnd_ok (P := P) (w := w) (code := .sliceB) k4 hv; exact ⟨by simp [h1], by simp, h2⟩
  obtain ⟨j1, j2, j3⟩ := keylo
  refine ⟨?_, j3, k3⟩
  cases hhi with
  | none =>
    have hh := k2 rfl
    cases hlo with
    | none => simp [Instr.sliceBounds, hh, j2 rfl]
    | some _ => rw [hh] at j1; simp [Instr.sliceBounds, hh, j1 _ rfl]
  | some _ =>
    cases hlo with
    | none => simp [Instr.sliceBounds, k1 _ rfl, j2 rfl]
    | some _ => simp [Instr.sliceBounds, k1 _ rfl, j1 _ rfl]

section
variable {E : Env} (hE : E.Ok) {ρ : Ren} {w : World}
include hE

theorem slice_ok {t : TypeId} {x : AV} {lo hi mx : Option AV} {a : AV} {vx : Value} {vlo vhi vmx : Option Value} (h : aslice E t x lo hi mx = some a) (hx : Rv ρ x vx)
    (hlo : RvO ρ lo vlo) (hhi : RvO ρ hi vhi) (hmx : RvO ρ mx vmx) : Gives E.P w (Instr.sliceAt t vx vlo vhi vmx) ρ a := by
  unfold aslice at h
  split at h
  · rename_i n elem hu
    have h1 := hE.run_und (w := w) hu
    split at h
    · rename_i l hh m sz hb hs
      have h2 := hE.run_siz (w := w) hs
      obtain ⟨g, g1, g2, g3, g4, g5⟩ := bnds_ok (P := E.P) (w := w) (isSlice := false) hb hlo hhi hmx
      have hle : hh ≤ m := by
        cases hhi with
        | some _ => exact g2 rfl
        | none =>
          rw [g5 rfl]
          cases hmx with
          | none => rw [g4 rfl]; exact Nat.le_refl _
          | some _ => simp [abnds] at hb
      split at h
      · simp only [Option.some.injEq] at h; subst h
        cases hx with
        | ptr hk =>
          refine ⟨_, by simp [Instr.sliceAt, h1, Instr.sureAddr, g, h2]; rfl, ?_⟩
          by_cases e : m = l
          · have : Nat.beq m l = true := by rw [e]; simp
            rw [if_pos this, if_pos e]
            exact .slice hk (by omega)
          · have : ¬ Nat.beq m l = true := fun f => e (Nat.eq_of_beq_eq_true f)
            rw [if_neg this, if_neg e]
            exact .slice hk (by omega)
      · cases h
    · cases h
  · rename_i hu
    have h1 := hE.run_und (w := w) hu
    split at h
    · rename_i len n
      split at h
      · rename_i l hh m hb
        simp only [Option.some.injEq] at h; subst h
        cases hmx
        obtain ⟨g, g1, g2, g3, g4, g5⟩ := bnds_ok (P := E.P) (w := w) (isSlice := false) hb hlo hhi .none
        have hle : hh ≤ len := by
          cases hhi with
          | some _ => have := g2 rfl; omega
          | none => rw [g5 rfl]; exact Nat.le_refl _
        cases hx with
        | str hn =>
          have hs := strV_size len n
          refine ⟨.string (strV (hh - l) (sub256 n l hh)), ?_, .str (Nat.mod_lt _ (pow256_pos _))⟩
          simp [Instr.sliceAt, Instr.slice, h1, hs, g, strV_extract g1 hle]
      · cases h
    · cases h
  · rename_i elem hu
    have h1 := hE.run_und (w := w) hu
    split at h
    · cases h
    · rename_i sz hs
      have h2 := hE.run_siz (w := w) hs
      split at h
      · split at h
        · rename_i p hb
          obtain ⟨l, hh, m⟩ := p
          simp only [Option.some.injEq] at h; subst h
          obtain ⟨g, g1, g2, g3, g4, g5⟩ := bnds_ok (P := E.P) (w := w) (isSlice := true) hb hlo hhi hmx
          have hm : m = 0 := by omega
          have hh0 : hh = 0 := by
            cases hhi with
            | some _ => have := g2 rfl; omega
            | none => rw [g5 rfl]
          have hl : l = 0 := by omega
          subst hm; subst hh0; subst hl
          cases hx
          exact ⟨.slice none 0 0, by simp [Instr.sliceAt, Instr.slice, h1, g, h2], .snil⟩
        · cases h
      · split at h
        · rename_i id off len cap l hh m hb
          simp only [Option.some.injEq] at h; subst h
          obtain ⟨g, g1, g2, g3, g4, g5⟩ := bnds_ok (P := E.P) (w := w) (isSlice := true) hb hlo hhi hmx
          cases hx with
          | slice hk hlc =>
            have hle : hh ≤ m := by
              cases hhi with
              | some _ => exact g2 rfl
              | none =>
                rw [g5 rfl]
                cases hmx with
                | none => rw [g4 rfl]; exact hlc
                | some _ => simp [abnds] at hb
            refine ⟨_, by simp [Instr.sliceAt, Instr.slice, h1, g, h2]; rfl, ?_⟩
            by_cases e : m = l
            · have : Nat.beq m l = true := by rw [e]; simp
              rw [if_pos this, if_pos e]
              exact .slice hk (by omega)
            · have : ¬ Nat.beq m l = true := fun f => e (Nat.eq_of_beq_eq_true f)
              rw [if_neg this, if_neg e]
              exact .slice hk (by omega)
        · cases h
      · split at h
        · rename_i id off len z _ _ hz
          split at h
          · rename_i l hh m hb
            simp only [Option.some.injEq] at h; subst h
            have hzs := Nat.eq_of_beq_eq_true hz
            subst hzs
            cases hmx
            cases hx with
            | @gslice _ _ _ _ c k hk hlc htot =>
              obtain ⟨g, g1, g2⟩ := bnds_ok' (P := E.P) (w := w) hb hlc hlo hhi
              refine ⟨_, by simp [Instr.sliceAt, Instr.slice, h1, g, h2]; rfl, ?_⟩
              by_cases e : c = l
              · rw [if_pos e]
                have e1 : hh - l = 0 := by omega
                have e2 : c - l = 0 := by omega
                rw [e1, e2]
                exact .eslice hk
              · rw [if_neg e]
                refine .gslice hk (by omega) ?_
                rw [Nat.sub_mul]
                have : l * z ≤ c * z := Nat.mul_le_mul_right _ (by omega)
                omega
            | eslice hk =>
              obtain ⟨g, g1, g2⟩ := bnds_ok' (P := E.P) (w := w) (c := 0) hb (Nat.le_refl _) hlo hhi
              have e1 : hh = 0 := by omega
              have e2 : l = 0 := by omega
              subst e1; subst e2
              exact ⟨_, by simp [Instr.sliceAt, Instr.slice, h1, g, h2]; rfl, .eslice hk⟩
          · cases h
        · cases h
      · cases h
  · cases h

end

end Go.Gx

namespace Go.Gx
open Go

theorem strV_eq {l m a b : Nat} (ha : a < 256 ^ l) (hb : b < 256 ^ m) : ((strV l a).toList == (strV m b).toList) = (Nat.beq l m && Nat.beq a b) := by
  have h1 : (strV l a).toList = bl l a := ByteArray.toList_mk _
  have h2 : (strV m b).toList = bl m b := ByteArray.toList_mk _
  rw [h1, h2]
  by_cases e : l = m ∧ a = b
  · obtain ⟨rfl, rfl⟩ := e; simp
  · have hne : bl l a ≠ bl m b := fun f => e (bl_inj ha hb f)
    have : (bl l a == bl m b) = false := by simpa using hne
    rw [this]
    rcases Decidable.not_and_iff_or_not.1 e with h | h
    · rw [Tr.nbf h]; rfl
    · rw [Tr.nbf h]; simp

theorem strV_beq {l m a b : Nat} (ha : a < 256 ^ l) (hb : b < 256 ^ m) : (strV l a == strV m b) = (Nat.beq l m && Nat.beq a b) := by
  rw [beq_toListBytes]; exact strV_eq ha hb

section
variable {E : Env} (hE : E.Ok) {ρ : Ren} {w : World}
include hE

theorem eqFields_ok {d : Nat} (ih : ∀ {t : TypeId} {x y : AV} {b : Bool} {vx vy : Value}, aeqIn E d t x y = some b → Rv ρ x vx → Rv ρ y vy → (Op.equalIn d t vx vy).run E.P w = .ok b w)
    {xs ys : List AV} {vxs vys : Array Value} (hx : RvL ρ xs vxs.toList) (hy : RvL ρ ys vys.toList) : ∀ {fs : List Field} {b : Bool}, aeqFields E (aeqIn E d) xs ys fs = some b →
      (Op.eqFields d vxs vys fs).run E.P w = .ok b w
  | [], b, h => by simp only [aeqFields, Option.some.injEq] at h; subst h; rfl
  | f :: fs, b, h => by
    simp only [aeqFields] at h
    simp only [Op.eqFields]
    cases hn : (f.name != "_") with
    | false =>
      rw [hn] at h
      have : ¬ f.name ≠ "_" := by simpa using hn
      rw [if_neg this]
      exact eqFields_ok ih hx hy h
    | true =>
      rw [hn] at h
      have : f.name ≠ "_" := by simpa using hn
      rw [if_pos this]
      simp only at h
      split at h
      · rename_i a b' ha hb
        obtain ⟨va, pa, ra⟩ := part_ok hE (w := w) ha hx
        obtain ⟨vb, pb, rb⟩ := part_ok hE (w := w) hb hy
        simp only [Sem.run_bind, pa, pb, Result.andThen_ok]
        split at h
        · rename_i hf
          rw [ih hf ra rb]
          simpa using eqFields_ok ih hx hy h
        · rename_i r hr
          cases b with
          | true => exact absurd h hr
          | false => rw [ih h ra rb]; simp
      · cases h

theorem eqElems_ok {d : Nat} {e : TypeId} {n : Nat} (hn : E.P.cellsOf e = n)
    (ih : ∀ {t : TypeId} {x y : AV} {b : Bool} {vx vy : Value}, aeqIn E d t x y = some b → Rv ρ x vx → Rv ρ y vy → (Op.equalIn d t vx vy).run E.P w = .ok b w)
    {xs ys : List AV} {vxs vys : Array Value} (hx : RvL ρ xs vxs.toList) (hy : RvL ρ ys vys.toList) : ∀ {m i : Nat} {b : Bool}, aeqElems E (aeqIn E d) e n xs ys i m = some b →
      (Op.eqItems d e n vxs vys (List.range' i m)).run E.P w = .ok b w
  | 0, i, b, h => by simp only [aeqElems, Option.some.injEq] at h; subst h; rfl
  | m + 1, i, b, h => by
    simp only [aeqElems] at h
    simp only [List.range'_succ, Op.eqItems]
    split at h
    · rename_i a b' ha hb
      obtain ⟨va, pa, ra⟩ := part_ok hE (w := w) ha hx
      obtain ⟨vb, pb, rb⟩ := part_ok hE (w := w) hb hy
      simp only [Sem.run_bind, pa, pb, Result.andThen_ok]
      split at h
      · rename_i hf
        rw [ih hf ra rb]
        simpa using eqElems_ok hn ih hx hy h
      · rename_i r hr
        cases b with
        | true => exact absurd h hr
        | false => rw [ih h ra rb]; simp
    · cases h

set_option maxHeartbeats 2000000 in
theorem eqIn_ok : ∀ (d : Nat) {t : TypeId} {x y : AV} {b : Bool} {vx vy : Value}, aeqIn E d t x y = some b → Rv ρ x vx → Rv ρ y vy → (Op.equalIn d t vx vy).run E.P w = .ok b w
  | 0, _, _, _, _, _, _, h, _, _ => by simp [aeqIn] at h
  | d + 1, t, x, y, b, vx, vy, h, hx, hy => by
    simp only [aeqIn] at h
    split at h <;> first | cases h | skip
    case h_1 hu =>
      have hu' := hE.und _ _ hu
      split at h <;> first | cases h | skip
      cases hx; cases hy
      exact run_equalIn_bool' w d t _ _ hu'
    case h_2 k hu =>
      have hu' := hE.und _ _ hu
      split at h <;> first | cases h | skip
      split at h <;> first | cases h | skip
      rename_i e
      subst e
      cases hx; cases hy
      exact run_equalIn_int w d t _ _ _ _ hu'
    case h_3 hu =>
      have hu' := hE.und _ _ hu
      split at h <;> first | cases h | skip
      cases hx with
      | str ha => cases hy with
        | str hb => rw [run_equalIn_string w d t _ _ hu', strV_eq ha hb]
    case h_4 e hu =>
      have h1 := hE.run_und (w := w) hu
      split at h <;> first | cases h | skip
      case h_1 => cases hx; cases hy; simp [Op.equalIn, h1]
      case h_2 => cases hx; cases hy; simp [Op.equalIn, h1]
      case h_3 => cases hx; cases hy; simp [Op.equalIn, h1]
      case h_4 => cases hx; cases hy; simp [Op.equalIn, h1]
      case h_5 => cases hx; cases hy; simp [Op.equalIn, h1]
      case h_6 i a j b' =>
        split at h <;> first | cases h | skip
        rename_i n hn
        split at h <;> first | cases h | skip
        rename_i eij
        subst eij
        have h2 := hE.run_siz (w := w) hn
        cases hx with
        | ptr hk => cases hy with
          | ptr hk' =>
            rw [hk] at hk'; cases hk'
            simp only [Op.equalIn, Sem.run_bind, h1, h2, Result.andThen_ok]
            rename_i k
            have e : ((⟨k.b, a, none⟩ : Addr) == ⟨k.b, b', none⟩) = Nat.beq a b' := by
              by_cases f : a = b'
              · subst f; simp
              · rw [Tr.nbf f]; simpa using f
            simp [sameAddr]
            by_cases f : a = b'
            · subst f; simp
            · rw [Tr.nbf f]; simpa using f
    case h_5 e hu =>
      have h1 := hE.run_und (w := w) hu
      split at h <;> first | cases h | skip
      all_goals (cases hx <;> cases hy <;> simp [Op.equalIn, h1])
    case h_6 k e hu =>
      have h1 := hE.run_und (w := w) hu
      split at h <;> first | cases h | skip
      all_goals (cases hx <;> cases hy <;> simp [Op.equalIn, h1])
    case h_7 hu =>
      have h1 := hE.run_und (w := w) hu
      split at h <;> first | cases h | skip
      all_goals (cases hx <;> cases hy <;> simp [Op.equalIn, h1])
    case h_8 hu =>
      have h1 := hE.run_und (w := w) hu
      split at h <;> first | cases h | skip
      all_goals (cases hx <;> cases hy <;> simp [Op.equalIn, h1])
    case h_9 fs hu =>
      have hu' := hE.und _ _ hu
      split at h <;> first | cases h | skip
      split at h <;> first | cases h | skip
      rename_i hs
      have hf : E.P.fieldsOf t = fs := by simp [Program.fieldsOf, hu']
      cases hx with
      | agg hx => cases hy with
        | agg hy =>
          rw [run_equalIn_struct w d t _ _ (by rw [hf]; exact hu') hs, hf]
          exact eqFields_ok hE (fun h hx hy => eqIn_ok d h hx hy) hx hy h
    case h_10 n e hu =>
      have hu' := hE.und _ _ hu
      split at h <;> first | cases h | skip
      rename_i sz hs
      obtain ⟨i, hi, hsz⟩ := hE.siz _ _ hs
      have hc : E.P.cellsOf e = sz := by simp [Program.cellsOf, hi, hsz]
      cases hx with
      | agg hx => cases hy with
        | agg hy =>
          rw [run_equalIn_array w d _ _ hu' hi, hc, List.range_eq_range']
          exact eqElems_ok hE hc (fun h hx hy => eqIn_ok d h hx hy) hx hy h

omit hE in
theorem aeqIn_any {d : Nat} {t : TypeId} {x y : AV} {b : Bool} (h : aeqIn E d t x y = some b) : x ≠ .any ∧ y ≠ .any := by
  cases d with
  | zero => simp [aeqIn] at h
  | succ d =>
    simp only [aeqIn] at h
    constructor <;> rintro rfl
    all_goals (split at h <;> first | cases h | skip)
    all_goals (split at h <;> first | cases h | skip)
    all_goals (rename_i e; first | cases e | skip)
    all_goals simp_all

omit hE in
theorem aeqIn_anyi {d : Nat} {t : TypeId} {x y : AV} {b : Bool} (h : aeqIn E d t x y = some b) : (∀ k, x ≠ .anyi k) ∧ (∀ k, y ≠ .anyi k) := by
  cases d with
  | zero => simp [aeqIn] at h
  | succ d =>
    simp only [aeqIn] at h
    constructor <;> rintro k rfl
    all_goals (split at h <;> first | cases h | skip)
    all_goals (split at h <;> first | cases h | skip)
    all_goals (rename_i e; first | cases e | skip)
    all_goals simp_all

theorem eql_ok {t : TypeId} {x y : AV} {b : Bool} {vx vy : Value} (h : aeql E t x y = some b) (hx : Rv ρ x vx) (hy : Rv ρ y vy) :
    (Op.equal t vx vy).run E.P w = .ok b w ∧ ∀ (op : BinOp) (xo yo : Operand), (vx = .nilIface → vy = .nilIface → False) → (eqGuard op t xo yo vx vy).run E.P w = .ok () w := by
  have key : aeqIn E 10000 t x y = some b := by
    unfold aeql at h
    split at h
    · split at h
      · cases h
      · exact h
    · exact h
  refine ⟨eqIn_ok hE 10000 key hx hy, fun op xo yo hn => ?_⟩
  unfold aeql at h
  split at h
  · split at h
    · cases h
    · rename_i hg
      cases hx with
      | agg hx => cases hy with
        | agg hy => exact run_eqGuard_agg w op t xo yo _ _ hg
  · rename_i hnagg
    obtain ⟨hxa, hya⟩ := aeqIn_any key
    have : (eqGuard op t xo yo vx vy) = pure () := by
      unfold eqGuard
      cases op <;> first | rfl | skip
      all_goals
        cases hx <;> cases hy <;> first | rfl | (exact (hn rfl rfl).elim) | (exact absurd rfl (hnagg _ _ rfl)) | (exact absurd rfl hxa) | (exact absurd rfl hya) | skip
    rw [this]; rfl

end

end Go.Gx

namespace Go.Gx
open Go

theorem eqGuard_int (op : BinOp) (t : TypeId) (xo yo : Operand) (k j : IntKind) (a b : Int) : eqGuard op t xo yo (.int k a) (.int j b) = pure () := by
  cases op <;> rfl
theorem eqGuard_str (op : BinOp) (t : TypeId) (xo yo : Operand) (a b : ByteArray) : eqGuard op t xo yo (.string a) (.string b) = pure () := by
  cases op <;> rfl

theorem arith_ok {P : Program} {w : World} {ρ : Ren} {op : BinOp} {t : TypeId} {k : IntKind} {a b : Int} {r : AV} (h : aarith op k a b = some r) (hs : op ≠ .shl ∧ op ≠ .shr) :
    Gives P w (binOp op t (.int k a) (.int k b)) ρ r := by
  obtain ⟨hs1, hs2⟩ := hs
  cases op <;> simp only [aarith] at h
  case shl => exact absurd rfl hs1
  case shr => exact absurd rfl hs2
  case quo =>
    split at h
    · cases h
    · rename_i hb
      cases h
      exact ⟨_, by simp [binOp, Op.intDiv, hb], .int _ _⟩
  case rem =>
    split at h
    · cases h
    · rename_i hb
      cases h
      exact ⟨_, by simp [binOp, Op.intDiv, hb], .int _ _⟩
  case add | sub | mul => cases h; exact ⟨_, by simp [binOp, Op.intArith], .int _ _⟩
  case and | or | xor | andNot => cases h; exact ⟨_, by simp [binOp, Op.intBits], .int _ _⟩
  all_goals (cases h; exact ⟨_, by simp [binOp, Op.intCmp], .bool _⟩)

theorem shift_ok {P : Program} {w : World} {ρ : Ren} {op : BinOp} {t : TypeId} {k j : IntKind} {a b : Int} {r : AV} (h : ashift op k a b = some r) :
    Gives P w (binOp op t (.int k a) (.int j b)) ρ r := by
  unfold ashift at h
  split at h
  · cases h
  · rename_i hb
    cases op <;> simp only at h <;> first | cases h | skip
    all_goals exact ⟨_, by simp [binOp, Op.shift, hb], .int _ _⟩

theorem str_ok {P : Program} {w : World} {ρ : Ren} {op : BinOp} {t : TypeId} {l m a b : Nat} {r : AV} (ha : a < 256 ^ l) (hb : b < 256 ^ m) (h : astr op l a m b = some r) :
    Gives P w (binOp op t (.string (strV l a)) (.string (strV m b))) ρ r := by
  have he := strV_eq ha hb
  have h1 : (strV l a).toList = bl l a := ByteArray.toList_mk _
  have h2 : (strV m b).toList = bl m b := ByteArray.toList_mk _
  have hs1 := strV_size l a
  have hs2 := strV_size m b
  have he' := he
  rw [h1, h2] at he'
  cases op <;> simp only [astr] at h <;> first | cases h | skip
  case add =>
    split at h
    · rename_i hle
      cases h
      have := Nat.le_of_ble_eq_true hle
      refine ⟨.string (strV (l + m) (a + 256 ^ l * b)), ?_, .str (append_lt ha hb)⟩
      have hn : ¬ ((((strV l a).size + (strV m b).size : Nat) : Int) > IntKind.i64.max) := by
        rw [hs1, hs2]
        show ¬ (((l + m : Nat) : Int) > 2 ^ (64 - 1) - 1)
        omega
      simp only [binOp, Op.stringOp, if_neg hn, Sem.run_pure, strV_append ha]
    · cases h
  case eql => exact ⟨_, by simp only [binOp, Op.stringOp, he, Sem.run_pure], .bool _⟩
  case neq => exact ⟨_, by simp only [binOp, Op.stringOp, he, Sem.run_pure], .bool _⟩
  case lss => exact ⟨_, by simp only [binOp, Op.stringOp, h1, h2, Sem.run_pure], .bool _⟩
  case leq => exact ⟨_, by simp only [binOp, Op.stringOp, h1, h2, he', Sem.run_pure], .bool _⟩
  case gtr => exact ⟨_, by simp only [binOp, Op.stringOp, h1, h2, he', Sem.run_pure], .bool _⟩
  case geq => exact ⟨_, by simp only [binOp, Op.stringOp, h1, h2, Sem.run_pure], .bool _⟩

section
variable {E : Env} (hE : E.Ok) {ρ : Ren} {w : World}
include hE

theorem bin_ok {op : BinOp} {t : TypeId} {x y : AV} {xo yo : Operand} {a : AV} {vx vy : Value} (h : abin E op t x y (isConstO xo) (isConstO yo) = some a) (hx : Rv ρ x vx) (hy : Rv ρ y vy) :
    Gives E.P w (do eqGuard op t xo yo vx vy; binOp op t vx vy) ρ a := by
  unfold abin at h
  split at h
  · rename_i k a' j b
    cases hx; cases hy
    unfold Gives
    rw [eqGuard_int]
    simp only [pure_bind]
    split at h
    · exact shift_ok h
    · exact shift_ok h
    · rename_i h1 h2
      split at h
      · rename_i e
        subst e
        exact arith_ok h ⟨fun e => h1 e, fun e => h2 e⟩
      · cases h
  · cases hx with
    | str ha => cases hy with
      | str hb =>
        unfold Gives
        rw [eqGuard_str]
        simp only [pure_bind]
        exact str_ok ha hb h
  · rename_i k j b
    cases hx; cases hy
    rename_i n
    unfold Gives
    rw [eqGuard_int]
    simp only [pure_bind]
    split at h <;> first | cases h | skip
    split at h <;> first | cases h | skip
    rename_i e
    subst e
    split at h <;> first | cases h | skip
    rename_i hb
    obtain ⟨v, g1, g2⟩ := arith_ok (P := E.P) (w := w) (ρ := ρ) (t := t) (op := .rem) (k := k) (a := n) (b := b) (r := .int k (n.tmod b)) (by simp only [aarith, if_neg hb]) ⟨by simp, by simp⟩
    cases g2
    exact ⟨_, g1, .anyi _ _⟩
  · cases hx; cases hy
    split at h <;> first | cases h | skip
    all_goals
      rename_i hc ht
      have h1 := hE.run_und (w := w) ht
      refine ⟨_, ?_, .bool _⟩
      have hg : ∀ op, eqGuard op t xo yo .nilIface .nilIface = pure () := by
        intro op
        cases xo <;> cases yo <;> first | exact Bool.noConfusion hc | (cases op <;> rfl)
      rw [hg]
      have he : (Op.equal t .nilIface .nilIface).run E.P w = .ok true w := by
        show (Op.equalIn (9999 + 1) t .nilIface .nilIface).run E.P w = _
        rw [Op.equalIn]
        simp [h1]
      first
        | (show ((do pure (.bool (← Op.equal t .nilIface .nilIface)) : Sem Value)).run E.P w = _; simp [he])
        | (show ((do pure (.bool (!(← Op.equal t .nilIface .nilIface))) : Sem Value)).run E.P w = _; simp [he])
  · rename_i h1 h2 hany h3
    have shape : ∀ b, aeql E t x y = some b → binOp .eql t vx vy = (do pure (.bool (← Op.equal t vx vy)) : Sem Value) ∧ binOp .neq t vx vy = (do pure (.bool (!(← Op.equal t vx vy))) : Sem Value) ∧
        (vx = .nilIface → vy = .nilIface → False) := by
      intro b hb
      obtain ⟨⟨hxa, hya⟩, hxi, hyi⟩ : (x ≠ .any ∧ y ≠ .any) ∧ (∀ k, x ≠ .anyi k) ∧ (∀ k, y ≠ .anyi k) := by
        have : aeqIn E 10000 t x y = some b := by
          unfold aeql at hb
          split at hb
          · split at hb
            · cases hb
            · exact hb
          · exact hb
        exact ⟨aeqIn_any this, aeqIn_anyi this⟩
      clear h hb hE
      cases hx <;> cases hy <;> first
        | exact absurd rfl hxa
        | exact absurd rfl hya
        | exact absurd rfl (hxi _)
        | exact absurd rfl (hyi _)
        | exact (h1 _ _ _ _ rfl rfl).elim
        | exact (h2 _ _ _ _ rfl rfl).elim
        | exact (h3 rfl rfl).elim
        | exact ⟨rfl, rfl, fun e => Value.noConfusion e⟩
        | exact ⟨rfl, rfl, fun _ e => Value.noConfusion e⟩
    split at h
    · split at h
      · rename_i b hb
        cases h
        obtain ⟨e1, e2, e3⟩ := shape b hb
        obtain ⟨g1, g2⟩ := eql_ok hE (w := w) hb hx hy
        refine ⟨_, ?_, .bool _⟩
        rw [e1]
        simp [g1, g2 .eql xo yo e3]
      · cases h
    · split at h
      · rename_i b hb
        cases h
        obtain ⟨e1, e2, e3⟩ := shape b hb
        obtain ⟨g1, g2⟩ := eql_ok hE (w := w) hb hx hy
        refine ⟨_, ?_, .bool _⟩
        rw [e2]
        simp [g1, g2 .neq xo yo e3]
      · cases h
    · cases h

end

end Go.Gx

namespace Go.Gx
open Go

theorem undef_rv (ρ : Ren) : Rv ρ (.tup []) undef := .tup .nil

theorem one1_some {β : Type} {tm : Tr AV} {x : Operand} {f : AV → Option β} {r : β} (h : one1 tm x f = some r) : ∃ a, opv tm x = some a ∧ f a = some r := by
  unfold one1 at h
  cases e : opv tm x with
  | none => rw [e] at h; cases h
  | some a => rw [e] at h; exact ⟨a, rfl, h⟩

theorem un_ok {P : Program} {w : World} {ρ : Ren} {op : UnOp} {x a : AV} {v : Value} (h : aun op x = some a) (hx : Rv ρ x v) : Gives P w (Op.unary op v) ρ a := by
  unfold aun at h
  split at h <;> first | cases h | skip
  · cases hx; exact ⟨_, by simp [Op.unary, Op.intArith], .int _ _⟩
  · cases hx; exact ⟨_, by simp [Op.unary, Op.intBits], .int _ _⟩
  · cases hx; exact ⟨_, by simp [Op.unary], .bool _⟩

theorem aoptv_rv {ρ : Ren} {tm : Tr AV} {ev : Operand → Value} (hev : EvR ρ tm ev) {x : Option Operand} {r : Option AV} (h : aoptv tm x = some r) : RvO ρ r (x.map ev) := by
  unfold aoptv at h
  cases x with
  | none => simp only [Option.some.injEq] at h; subst h; exact .none
  | some x =>
    simp only at h
    split at h
    · rename_i a ha
      simp only [Option.some.injEq] at h; subst h
      exact .some (hev x a ha)
    · cases h

theorem ext_ok {P : Program} {w : World} {ρ : Ren} {big : Bool} {k : IntKind} : ∀ {l : List AV} {x : Int} {a : AV} {vs : List Value}, aextF big k x l = some a → RvL ρ l vs →
    ∃ v, (vs.foldlM (if big then Builtin.max2 else Builtin.min2) (.int k x)).run P w = .ok v w ∧ Rv ρ a v
  | [], x, a, _, h, .nil => by
    simp only [aextF, Option.some.injEq] at h; subst h
    exact ⟨.int k x, by simp, .int _ _⟩
  | b :: l, x, a, _, h, .cons (v := v) (vs := vs) hb hl => by
    unfold aextF at h
    split at h <;> first | cases h | skip
    · rename_i e; cases e
    · rename_i e
      cases e
      cases hb
      obtain ⟨v, hv, hr⟩ := ext_ok (w := w) (P := P) h hl
      refine ⟨v, ?_, hr⟩
      rw [List.foldlM_cons]
      cases big
      · simp only [Bool.false_eq_true, if_false, Sem.run_bind, Builtin.min2, Sem.run_pure, Result.andThen_ok] at hv ⊢
        exact hv
      · simp only [if_true, Sem.run_bind, Builtin.max2, Sem.run_pure, Result.andThen_ok] at hv ⊢
        exact hv

section
variable {E : Env} (hE : E.Ok) {ρ : Ren} {w : World}
include hE

theorem build_ok {t : TypeId} {l : List (Nat × AV)} {vs : List (Nat × Value)} {a : AV} (h : abuild E t l = some a) (hl : RvP ρ l vs) : Gives E.P w (Instr.build t vs.toArray) ρ a := by
  unfold abuild at h
  split at h <;> first | cases h | skip
  rename_i zero hz
  obtain ⟨vz, hvz, hcz⟩ := hE.run_zer (w := w) hz
  have hzr : Rv ρ (.agg zero) vz := cst_rv hcz
  cases hzr with
  | agg hzl =>
    split at h <;> first | cases h | skip
    · rename_i fs hu
      have h1 := hE.run_und (w := w) hu
      split at h <;> first | cases h | skip
      rename_i r hf
      -- the places of all fields
      have hplaces : ∀ (fl : List Field), (∀ f ∈ fl, ∃ n, E.siz.get f.type = some n) → (fl.mapM fun f => (do pure (f.offset, ← sizeOf f.type) : Sem (Nat × Nat))).run E.P w =
          .ok (fl.map fun f => (f.offset, (E.siz.get f.type).getD 0)) w := by
        intro fl hfl
        induction fl with
        | nil => simp
        | cons f fl ih =>
          obtain ⟨n, hn⟩ := hfl f (by simp)
          have h2 := hE.run_siz (w := w) hn
          have ih' := ih (fun g hg => hfl g (by simp [hg]))
          rw [List.mapM_cons]
          simp only [Sem.run_bind, h2, ih', Result.andThen_ok, Sem.run_pure, List.map_cons, hn, Option.getD_some]
      have hp := hplaces fs.toList (hE.fld t fs hu)
      have hpa : (fs.mapM fun f => (do pure (f.offset, ← sizeOf f.type) : Sem (Nat × Nat))).run E.P w = .ok ((fs.toList.map fun f => (f.offset, (E.siz.get f.type).getD 0)).toArray) w := by
        rw [Array.mapM_eq_mapM_toList]
        simp only [Sem.run_map, hp, Result.andThen_ok]
      obtain ⟨ws', hw, hr⟩ := fill_rv (place' := ((fs.toList.map fun f => (f.offset, (E.siz.get f.type).getD 0)).toArray[·]?)) (fun i x hx => by
        unfold fieldAt? at hx
        split at hx
        · cases hx
        · rename_i f hfi
          split at hx
          · cases hx
          · rename_i n hn
            simp only [Option.some.injEq] at hx; subst hx
            simp [hfi, hn]) hl hzl hf
      exact ⟨_, by simp only [Instr.build, Sem.run_bind, hvz, h1, hpa, Value.cells, hw, Result.andThen_ok, Sem.run_pure], .agg hr⟩
    · rename_i n elem hu
      have h1 := hE.run_und (w := w) hu
      split at h <;> first | cases h | skip
      rename_i size hs
      have h2 := hE.run_siz (w := w) hs
      split at h <;> first | cases h | skip
      rename_i r hf
      obtain ⟨ws', hw, hr⟩ := fill_rv (place' := fun i => some (i * size, size)) (fun i x hx => hx) hl hzl hf
      exact ⟨_, by simp [Instr.build, hvz, h1, h2, Value.cells, hw], .agg hr⟩

theorem typeAssert_ok {x : AV} {xt t : TypeId} {ok : Bool} {a : AV} {v : Value} (h : atypeAssert E x t ok = some a) (hx : Rv ρ x v) : Gives E.P w (Instr.typeAssert v xt t ok) ρ a := by
  unfold atypeAssert at h
  split at h <;> first | cases h | skip
  rename_i d hni hu
  have h1 := hE.run_und (w := w) hu
  have hd : ∀ ms, d ≠ .interface ms := fun ms e => hni ms e
  split at h <;> first | cases h | skip
  · rename_i t' y
    cases hx with
    | ifc hy =>
      rename_i vy
      split at h
      · rename_i e
        simp only [Option.some.injEq] at h
        subst e
        cases ok
        · simp only [Bool.false_eq_true, if_false] at h; subst h
          refine ⟨vy, ?_, hy⟩
          cases d <;> first | (exact absurd rfl (hd _)) | simp [Instr.typeAssert, h1]
        · simp only [if_true] at h; subst h
          refine ⟨.tuple #[vy, .bool true], ?_, .tup (.cons hy (.cons (.bool _) .nil))⟩
          cases d <;> first | (exact absurd rfl (hd _)) | simp [Instr.typeAssert, h1]
      · rename_i hne
        split at h <;> first | cases h | skip
        rename_i z hz
        obtain ⟨vz, hvz, hcz⟩ := hE.run_zer (w := w) hz
        refine ⟨.tuple #[vz, .bool false], ?_, .tup (.cons (cst_rv hcz) (.cons (.bool _) .nil))⟩
        cases d <;> first | (exact absurd rfl (hd _)) | simp [Instr.typeAssert, h1, hne, hvz]
  · cases hx
    split at h <;> first | cases h | skip
    rename_i z hz
    obtain ⟨vz, hvz, hcz⟩ := hE.run_zer (w := w) hz
    refine ⟨.tuple #[vz, .bool false], ?_, .tup (.cons (cst_rv hcz) (.cons (.bool _) .nil))⟩
    cases d <;> first | (exact absurd rfl (hd _)) | simp [Instr.typeAssert, h1, hvz]

theorem len_ok {t : TypeId} {x a : AV} {v : Value} {ats : Array TypeId} {ty : TypeId} (ht : ats[0]? = some t) (h : alen E t x = some a) (hx : Rv ρ x v) : Gives E.P w (Builtin.len_ ats ty #[v]) ρ a := by
  unfold alen at h
  split at h <;> first | cases h | skip
  · rename_i l n hu
    have h1 := hE.run_und (w := w) hu
    cases hx
    exact ⟨_, by simp [Builtin.len_, ht, h1, strV_size, goInt], .int _ _⟩
  · rename_i n hu
    have h1 := hE.run_und (w := w) hu
    exact ⟨_, by simp [Builtin.len_, ht, h1, goInt], .int _ _⟩
  all_goals
    rename_i hu
    have h1 := hE.run_und (w := w) hu
    cases hx <;> exact ⟨_, by simp [Builtin.len_, ht, h1, goInt], .int _ _⟩

theorem cap_ok {t : TypeId} {x a : AV} {v : Value} {ats : Array TypeId} {ty : TypeId} (ht : ats[0]? = some t) (h : acap E t x = some a) (hx : Rv ρ x v) : Gives E.P w (Builtin.cap_ ats ty #[v]) ρ a := by
  unfold acap at h
  split at h <;> first | cases h | skip
  all_goals
    rename_i hu
    have h1 := hE.run_und (w := w) hu
    cases hx
    exact ⟨_, by simp [Builtin.cap_, ht, h1, goInt], .int _ _⟩

end

end Go.Gx

namespace Go.Gx
open Go

section
variable {E : Env} (hE : E.Ok) {ρ : Ren} {w : World} {tm : Tr AV} {ev : Operand → Value} (hev : EvR ρ tm ev)
include hE hev

omit hE hev in
theorem map_toArray {α β : Type} (f : α → β) (a : Array α) : a.map f = (a.toList.map f).toArray := by apply Array.ext'; simp

omit hev in
theorem pureBuiltin_ok {b : Builtin} {ats : Array TypeId} {ty : TypeId} {cs : Array Bool} {l : List AV} {vs : List Value} {a : AV} (h : pureBuiltin E b ats l = some a) (hl : RvL ρ l vs) :
    ∃ v, (builtin b ats ty cs vs.toArray).run E.P w = .ok (.value v) w ∧ Rv ρ a v := by
  unfold pureBuiltin at h
  split at h <;> first | cases h | skip
  · split at h <;> first | cases h | skip
    rename_i t ht
    cases hl with
    | cons hx hn =>
      cases hn
      obtain ⟨v, hv, hr⟩ := len_ok hE (w := w) (ty := ty) ht h hx
      exact ⟨v, by simp [builtin, hv], hr⟩
  · split at h <;> first | cases h | skip
    rename_i t ht
    cases hl with
    | cons hx hn =>
      cases hn
      obtain ⟨v, hv, hr⟩ := cap_ok hE (w := w) (ty := ty) ht h hx
      exact ⟨v, by simp [builtin, hv], hr⟩
  · unfold aext at h
    split at h <;> first | cases h | skip
    · cases hl with
      | cons hx hn =>
        cases hx
        cases hn with
        | cons hy hn =>
          cases hy
          cases hn
          rename_i k k' n' n
          obtain ⟨v, hv, hr⟩ := ext_ok (P := E.P) (w := w) (ρ := ρ) (big := true) (k := k) (l := [.int k' n']) (x := n) rfl (.cons (.int _ _) .nil)
          simp only [if_true] at hv
          cases hr
          exact ⟨.int k (if n' > n then n' else n), by simp [builtin, Builtin.max_, Builtin.max2], .anyi _ _⟩
    · cases hl with
      | cons hx hn =>
        cases hx
        obtain ⟨v, hv, hr⟩ := ext_ok (P := E.P) (w := w) h hn
        simp only [if_true] at hv
        exact ⟨v, by simp [builtin, Builtin.max_, hv], hr⟩
  · unfold aext at h
    split at h <;> first | cases h | skip
    · cases hl with
      | cons hx hn =>
        cases hx
        cases hn with
        | cons hy hn =>
          cases hy
          cases hn
          rename_i k k' n' n
          obtain ⟨v, hv, hr⟩ := ext_ok (P := E.P) (w := w) (ρ := ρ) (big := false) (k := k) (l := [.int k' n']) (x := n) rfl (.cons (.int _ _) .nil)
          simp only [Bool.false_eq_true, if_false] at hv
          cases hr
          exact ⟨.int k (if n' < n then n' else n), by simp [builtin, Builtin.min_, Builtin.min2], .anyi _ _⟩
    · cases hl with
      | cons hx hn =>
        cases hx
        obtain ⟨v, hv, hr⟩ := ext_ok (P := E.P) (w := w) h hn
        simp only [Bool.false_eq_true, if_false] at hv
        exact ⟨v, by simp [builtin, Builtin.min_, hv], hr⟩
  · cases hl with
    | cons hx hn =>
      cases hn
      split at h <;> first | cases h | skip
      · cases hx; exact ⟨_, rfl, .pnil⟩
      · cases hx with
        | slice hk hle => exact ⟨_, rfl, .ptr hk⟩
      · cases hx with
        | @gslice _ _ _ _ c k hk hle htot =>
          obtain ⟨c', rfl⟩ : ∃ m, c = m + 1 := ⟨c - 1, by omega⟩
          exact ⟨_, rfl, .ptr hk⟩

/-- The operations that look at nothing but their operands. -/
theorem apure_ok {o : Op} {a : AV} (h : apure E tm o = some a) (x : Oper) (hx : x.op = o) : ∃ v, (execOp ev x).run E.P w = .ok (.value v) w ∧ Rv ρ a v := by
  have lift : ∀ {s : Sem Value}, Gives E.P w s ρ a → (execOp ev x = (do pure (.value (← s)) : Sem Next)) → ∃ v, (execOp ev x).run E.P w = .ok (.value v) w ∧ Rv ρ a v := by
    rintro s ⟨v, hv, hr⟩ he
    exact ⟨v, by rw [he]; simp [hv], hr⟩
  unfold apure at h
  split at h
  · exact ⟨_, by simp [execOp, hx], hev _ _ h⟩
  · exact ⟨_, by simp [execOp, hx], hev _ _ h⟩
  · obtain ⟨c, hc, h⟩ := one1_some h
    have hcv := hev _ _ hc
    split at h <;> first | cases h | skip
    · generalize hvc : ev _ = vc at hcv
      cases hcv
      exact ⟨_, by simp [execOp, hx, hvc, asBool], hev _ _ h⟩
    · generalize hvc : ev _ = vc at hcv
      cases hcv
      exact ⟨_, by simp [execOp, hx, hvc, asBool], hev _ _ h⟩
  · split at h <;> first | cases h | skip
    rename_i ps l hl
    have hp := partsL_rv hev hl
    refine lift (build_ok hE h hp) ?_
    simp only [execOp, hx, map_toArray]
  · obtain ⟨c, hc, h⟩ := one1_some h
    have hcv := hev _ _ hc
    generalize hvc : ev _ = vc at hcv
    unfold anilCheck at h
    split at h <;> first | cases h | skip
    rename_i h1 h2 h3 h4
    cases hcv <;> first | (exact absurd rfl h1) | (exact absurd rfl h2) | (exact absurd rfl h3) | (exact absurd rfl h4) | skip
    all_goals (refine ⟨_, by simp only [execOp, hx, hvc]; rfl, ?_⟩; first | exact .bool _ | exact .int _ _ | (refine .str ?_; assumption) | (refine .ptr ?_; assumption) | exact .gptr | exact .snil | (refine .slice ?_ ?_ <;> assumption) | (refine .gslice ?_ ?_ ?_ <;> assumption) | (refine .eslice ?_; assumption) | exact .mnil | (refine .map ?_; assumption) | (refine .fn ?_ ?_ <;> assumption) | (refine .yield ?_; assumption) | (refine .ifc ?_; assumption) | (refine .agg ?_; assumption) | (refine .tup ?_; assumption) | exact .anyi _ _)
  · obtain ⟨a', ha, h⟩ := one1_some h
    obtain ⟨b', hb, h⟩ := one1_some h
    exact lift (bin_ok hE h (hev _ _ ha) (hev _ _ hb)) (by simp only [execOp, hx])
  · obtain ⟨a', ha, h⟩ := one1_some h
    exact lift (un_ok h (hev _ _ ha)) (by simp only [execOp, hx])
  · obtain ⟨a', ha, h⟩ := one1_some h
    split at h <;> first | cases h | skip
    rename_i d hni hu
    have h1 := hE.run_und (w := w) hu
    have hav := hev _ _ ha
    refine lift (s := Instr.makeInterface _ _) ?_ (by simp only [execOp, hx]; rfl)
    refine ⟨_, ?_, .ifc hav⟩
    unfold Instr.makeInterface
    cases d <;> first | (exact absurd rfl (hni _)) | simp [h1]
  · split at h <;> first | cases h | skip
    rename_i l m hl hm
    have hlv := opvs_rv hev hl
    have hmv := opvs_rv hev hm
    refine lift (s := Instr.makeFunc _ _ _) ?_ (by simp only [execOp, hx]; rfl)
    refine ⟨_, rfl, .fn ?_ ?_⟩
    · simpa using hlv
    · simpa using hmv
  · obtain ⟨a', ha, h⟩ := one1_some h
    split at h <;> first | cases h | skip
    rename_i hlo hhi hmx
    exact lift (slice_ok hE h (hev _ _ ha) (aoptv_rv hev hlo) (aoptv_rv hev hhi) (aoptv_rv hev hmx)) (by simp only [execOp, hx])
  · obtain ⟨a', ha, h⟩ := one1_some h
    exact lift (fieldAddr_ok hE h (hev _ _ ha)) (by simp only [execOp, hx])
  · obtain ⟨a', ha, h⟩ := one1_some h
    split at h <;> first | cases h | skip
    rename_i fs cs hu
    split at h <;> first | cases h | skip
    rename_i f hf
    have h1 := hE.run_und (w := w) hu
    have hav := hev _ _ ha
    generalize hvc : ev _ = vc at hav
    cases hav with
    | agg hc =>
      obtain ⟨v, hv, hr⟩ := part_ok hE (w := w) h hc
      refine lift (s := Instr.field _ _ _) ?_ (by simp only [execOp, hx, hvc]; rfl)
      exact ⟨v, by simp [Instr.field, h1, hf, asAgg, hv], hr⟩
  · obtain ⟨a', ha, h⟩ := one1_some h
    obtain ⟨b', hb, h⟩ := one1_some h
    exact lift (indexAddr_ok hE h (hev _ _ ha) (hev _ _ hb)) (by simp only [execOp, hx])
  · obtain ⟨a', ha, h⟩ := one1_some h
    obtain ⟨b', hb, h⟩ := one1_some h
    exact lift (index_ok hE h (hev _ _ ha) (hev _ _ hb)) (by simp only [execOp, hx])
  · obtain ⟨a', ha, h⟩ := one1_some h
    exact lift (typeAssert_ok hE h (hev _ _ ha)) (by simp only [execOp, hx]; rfl)
  · obtain ⟨a', ha, h⟩ := one1_some h
    split at h <;> first | cases h | skip
    have hav := hev _ _ ha
    generalize hvc : ev _ = vc at hav
    cases hav with
    | tup hc =>
      obtain ⟨v, hv, hr⟩ := hc.get h
      simp only [Array.getElem?_toList] at hv
      refine lift (s := Instr.extract _ _) ?_ (by simp only [execOp, hx, hvc]; rfl)
      exact ⟨v, by simp [Instr.extract, hv], hr⟩
  · obtain ⟨a', ha, h⟩ := one1_some h
    have hav := hev _ _ ha
    split at h <;> first | cases h | skip
    · rename_i k kd _ n hs hd
      have h1 := hE.run_und (w := w) hs
      have h2 := hE.run_und (w := w) hd
      generalize hvc : ev _ = vc at hav
      cases hav
      refine lift (s := convert _ _ _) ?_ (by simp only [execOp, hx, hvc]; rfl)
      exact ⟨_, by simp [convert, h1, h2, Conv.intToInt], .int _ _⟩
    · rename_i l n hs hd
      have h1 := hE.run_und (w := w) hs
      have h2 := hE.run_und (w := w) hd
      generalize hvc : ev _ = vc at hav
      cases hav with
      | str hn =>
        refine lift (s := convert _ _ _) ?_ (by simp only [execOp, hx, hvc]; rfl)
        exact ⟨_, by simp [convert, h1, h2], .str hn⟩
  · split at h <;> first | cases h | skip
    rename_i l hl
    have hlv := opvs_rv hev hl
    obtain ⟨v, hv, hr⟩ := pureBuiltin_ok hE (w := w) (ty := x.type) (cs := _) h hlv
    refine ⟨v, ?_, hr⟩
    simp only [execOp, hx, resolve, invoke, Sem.run_bind, Sem.run_pure, Result.andThen_ok, map_toArray ev]
    exact hv
  · cases h

end

end Go.Gx

namespace Go.Gx
open Go

/- The operations that read memory, and those that make one block. -/

/-- What the package-level variables of ours hold; they lie ahead of all that we make. -/
def Globs (E : Env) (B : Nat) (w : World) : Prop :=
  ∀ g c off a, E.glo.get g = some c → c.get off = some a → g < B ∧ ∃ v, w.cell? ⟨g, off, none⟩ = some v ∧ Rv (fun _ => none) a v

theorem Le.empty (ρ : Ren) : Le (fun _ => none) ρ := fun _ _ h => by cases h

theorem RelH.cell {B : Nat} {ρ : Ren} {H : St} {w : World} (h : RelH B ρ H w) {id off : Nat} {k : Bk} {c : Tr AV} {n : Nat} {e : TypeId} {fz : Nat} {g : Bool} {a : AV}
    (hk : ρ id = some k) (hb : H.blk.get id = some (.cells c n e fz g)) (ha : c.get off = some a) : ∃ v, w.cell? ⟨k.b, off, none⟩ = some v ∧ Rv ρ a v := by
  obtain ⟨o, ho, hr⟩ := h.blk id _ k hb hk
  generalize k.tot = tot at hr
  cases hr with
  | cells h1 _ _ _ =>
    obtain ⟨_, v, hv, hr⟩ := h1 off a ha
    exact ⟨v, by simp [World.cell?, ho, hv], hr⟩

theorem loadCellsFrom_ok {P : Program} {w : World} {b off : Nat} : ∀ (l : List Value) (i : Nat) (acc : Array Value), (∀ j v, l[j]? = some v → w.cell? ⟨b, off + i + j, none⟩ = some v) →
    (loadCellsFrom ⟨b, off, none⟩ i l.length acc).run P w = .ok (acc ++ l.toArray) w
  | [], i, acc, _ => by simp [loadCellsFrom]
  | v :: l, i, acc, h => by
    have h0 := h 0 v rfl
    have ih := loadCellsFrom_ok (P := P) (w := w) (b := b) (off := off) l (i + 1) (acc.push v) fun j u hj => by
      have := h (j + 1) u (by simpa using hj)
      rwa [show off + i + (j + 1) = off + (i + 1) + j by omega] at this
    simp only [List.length_cons, loadCellsFrom, Addr.add_none, Sem.run_bind, run_load]
    rw [show off + i + 0 = off + i by omega] at h0
    simp only [h0, Result.andThen_ok, ih]
    simp

theorem loadCells_ok {P : Program} {w : World} {b off : Nat} (l : List Value) (h : ∀ j v, l[j]? = some v → w.cell? ⟨b, off + j, none⟩ = some v) :
    (loadCells ⟨b, off, none⟩ l.length).run P w = .ok l.toArray w := by
  have := loadCellsFrom_ok (P := P) (w := w) (b := b) (off := off) l 0 #[] (by simpa using h)
  simpa [loadCells] using this

/-- A run of cells of a tree, in memory. -/
theorem take_cells {ρ : Ren} {w : World} {b : Nat} {c : Tr AV} (hc : ∀ off a, c.get off = some a → ∃ v, w.cell? ⟨b, off, none⟩ = some v ∧ Rv ρ a v) :
    ∀ {n off : Nat} {l : List AV}, c.take off n = some l → ∃ vs, RvL ρ l vs ∧ vs.length = n ∧ ∀ j v, vs[j]? = some v → w.cell? ⟨b, off + j, none⟩ = some v
  | 0, off, l, h => by
    simp only [Tr.take, Option.some.injEq] at h; subst h
    exact ⟨[], .nil, rfl, fun j v e => by simp at e⟩
  | n + 1, off, l, h => by
    simp only [Tr.take] at h
    cases hx : c.get off with
    | none => rw [hx] at h; cases h
    | some x =>
      rw [hx] at h
      cases hl : c.take (off + 1) n with
      | none => simp [hl] at h
      | some l' =>
        simp only [hl, Option.some.injEq] at h; subst h
        obtain ⟨v, hv, hr⟩ := hc off x hx
        obtain ⟨vs, h1, h2, h3⟩ := take_cells hc hl
        refine ⟨v :: vs, .cons hr h1, by simp [h2], fun j u e => ?_⟩
        cases j with
        | zero => simp only [List.getElem?_cons_zero, Option.some.injEq] at e; subst e; exact hv
        | succ j =>
          have := h3 j u (by simpa using e)
          rwa [show off + (j + 1) = off + 1 + j by omega]

section
variable {E : Env} (hE : E.Ok) {B : Nat} {ρ : Ren} {H : St} {w : World} (hH : RelH B ρ H w) (hG : Globs E B w)
include hE hH

omit hE in
theorem readCells_ok {id off n : Nat} {l : List AV} {k : Bk} (h : readCells H id off n = some l) (hk : ρ id = some k) :
    ∃ vs, RvL ρ l vs ∧ vs.length = n ∧ (loadCells ⟨k.b, off, none⟩ n).run E.P w = .ok vs.toArray w := by
  unfold readCells at h
  split at h <;> first | cases h | skip
  rename_i c m e fz g hb
  obtain ⟨vs, h1, h2, h3⟩ := take_cells (fun off a ha => hH.cell hk hb ha) h
  exact ⟨vs, h1, h2, by rw [← h2]; exact loadCells_ok vs h3⟩

include hG

omit hE hH in
theorem readGlob_ok {g off n : Nat} {l : List AV} (h : readGlob E g off n = some l) :
    ∃ vs, RvL ρ l vs ∧ vs.length = n ∧ (loadCells ⟨g, off, none⟩ n).run E.P w = .ok vs.toArray w := by
  unfold readGlob at h
  split at h <;> first | cases h | skip
  rename_i c hc
  obtain ⟨vs, h1, h2, h3⟩ := take_cells (ρ := ρ) (w := w) (b := g) (fun off a ha => by
    obtain ⟨_, v, hv, hr⟩ := hG g c off a hc ha
    exact ⟨v, hv, hr.mono (Le.empty ρ)⟩) h
  exact ⟨vs, h1, h2, by rw [← h2]; exact loadCells_ok vs h3⟩

theorem load_ok {t : TypeId} {x a : AV} {vx : Value} (h : aload E H t x = some a) (hx : Rv ρ x vx) : Gives E.P w (Instr.loadAt t vx) ρ a := by
  unfold aload at h
  split at h <;> first | cases h | skip
  · rename_i ht
    have h1 := hE.run_agg (w := w) ht
    split at h <;> first | cases h | skip
    rename_i n hn
    have h2 := hE.run_siz (w := w) hn
    split at h <;> first | cases h | skip
    · split at h <;> first | cases h | skip
      rename_i l hl
      cases hx with
      | ptr hk =>
        obtain ⟨vs, g1, g2, g3⟩ := readCells_ok (E := E) hH hl hk
        exact ⟨.agg vs.toArray, by simp [Instr.loadAt, Instr.sureAddr, loadVar, h1, h2, g3], .agg (by simpa using g1)⟩
    · split at h <;> first | cases h | skip
      rename_i l hl
      cases hx with
      | gptr =>
        obtain ⟨vs, g1, g2, g3⟩ := readGlob_ok (ρ := ρ) hG hl
        exact ⟨.agg vs.toArray, by simp [Instr.loadAt, Instr.sureAddr, loadVar, h1, h2, g3], .agg (by simpa using g1)⟩
  · rename_i ht
    have h1 := hE.run_agg (w := w) ht
    split at h <;> first | cases h | skip
    · split at h <;> first | cases h | skip
      rename_i c n e fz g hb
      cases hx with
      | ptr hk =>
        obtain ⟨v, hv, hr⟩ := hH.cell hk hb h
        exact ⟨v, by simp [Instr.loadAt, Instr.sureAddr, loadVar, h1, hv], hr⟩
    · split at h <;> first | cases h | skip
      rename_i c hc
      cases hx with
      | gptr =>
        obtain ⟨_, v, hv, hr⟩ := hG _ c _ a hc h
        exact ⟨v, by simp [Instr.loadAt, Instr.sureAddr, loadVar, h1, hv], hr.mono (Le.empty ρ)⟩

omit hE hG in
theorem mapOf_ok {m : AV} {es : List (AV × AV × Nat)} {clock : Nat} {vm : Value} (h : mapOf H m = some (es, clock)) (hm : Rv ρ m vm) :
    (vm = .map none ∧ es = []) ∨ ∃ b vs, vm = .map (some b) ∧ w.heap[b]? = some (.map vs clock) ∧ RvE ρ es vs.toList := by
  unfold mapOf at h
  split at h <;> first | cases h | skip
  · cases hm; exact .inl ⟨rfl, rfl⟩
  · split at h <;> first | cases h | skip
    rename_i hb
    cases hm with
    | map hk =>
      rename_i k
      obtain ⟨o, ho, hr⟩ := hH.blk _ _ k hb hk
      generalize k.tot = tot at hr
      cases hr with
      | map he => exact .inr ⟨k.b, _, rfl, ho, he⟩

omit hE hH hG in
theorem key_ok {d : TypeDesc} {x y : AV} {r : Bool} {vx vy : Value} (h : akey d x y = some r) (hx : Rv ρ x vx) (hy : Rv ρ y vy) : Instr.sameNow d vx vy = some r := by
  unfold akey at h
  split at h <;> first | cases h | skip
  · split at h <;> first | cases h | skip
    rename_i e
    subst e
    cases hx; cases hy
    simp [Instr.sameNow]
  · cases hx with
    | str ha => cases hy with
      | str hb => simp only [Instr.sameNow, strV_beq ha hb]
  · cases hx; cases hy; rfl

omit hE hH hG in
theorem find_ok {d : TypeDesc} {x : AV} {vx : Value} (hx : Rv ρ x vx) : ∀ {es : List (AV × AV × Nat)} {vs : List MapEntry} {i : Nat} {r : Option (Nat × AV × Nat)}, afind d x es i = some r → RvE ρ es vs →
    match r with
    | none => Instr.findNow d vx vs i = some none
    | some (j, a, b) => ∃ e, Instr.findNow d vx vs i = some (some (j, e.val)) ∧ Rv ρ a e.val ∧ i ≤ j ∧ vs[j - i]? = some e ∧ b = e.born ∧ ∃ y, es[j - i]? = some (y, a, b) ∧ Rv ρ y e.key ∧ akey d x y = some true
  | [], _, i, r, h, .nil => by simp only [afind, Option.some.injEq] at h; subst h; rfl
  | (y, a, b) :: es, _, i, r, h, .cons (e := e) (es := vs) hk hv hb hr => by
    simp only [afind] at h
    cases hkey : akey d x y with
    | none => rw [hkey] at h; cases h
    | some t =>
      have hs := key_ok hkey hx hk
      rw [hkey] at h
      cases t with
      | true =>
        simp only [Option.some.injEq] at h; subst h
        exact ⟨e, by simp [Instr.findNow, hs], hv, Nat.le_refl _, by simp, hb, y, by simp, hk, hkey⟩
      | false =>
        have := find_ok hx (i := i + 1) h hr
        cases r with
        | none => simpa [Instr.findNow, hs] using this
        | some p =>
          obtain ⟨j, a', b'⟩ := p
          obtain ⟨e', h1, h2, h3, h4, h5, y', h6, h7, h8⟩ := this
          refine ⟨e', by simpa [Instr.findNow, hs] using h1, h2, by omega, ?_, h5, y', ?_, h7, h8⟩
          · rw [show j - i = (j - (i + 1)) + 1 by omega]; simpa using h4
          · rw [show j - i = (j - (i + 1)) + 1 by omega]; simpa using h6

omit hE hH hG in
theorem checkKey_ok {P : Program} {d : TypeDesc} {t : TypeId} {v : Value} {b : Bool} {n : Nat} (hd : plainKey d = true) (hu : (underlying t).run P w = .ok d w) :
    (Instr.checkKey b (n + 1) t v).run P w = .ok () w := by
  cases d <;> simp [plainKey] at hd <;> simp [Instr.checkKey, hu]

omit hG in
theorem lookup_ok {t : TypeId} {m key a : AV} {ok : Bool} {vm vk : Value} (h : alookup E H t m key ok = some a) (hm : Rv ρ m vm) (hk : Rv ρ key vk) : Gives E.P w (Instr.lookup t vm vk ok) ρ a := by
  unfold alookup at h
  split at h <;> first | cases h | skip
  rename_i kt et ht
  have h1 := hE.run_und (w := w) ht
  split at h <;> first | cases h | skip
  rename_i kd es clock hkt hmo
  have h2 := hE.run_und (w := w) hkt
  split at h <;> first | cases h | skip
  rename_i hp
  have hck : ∀ b v, (Instr.checkKey b 10000 kt v).run E.P w = .ok () w := fun b v => checkKey_ok (n := 9999) hp h2
  -- the entries
  have hget : ∀ b vs, w.heap[b]? = some (.map vs clock) → (getObj b).run E.P w = .ok (.map vs clock) w := by
    intro b vs hb
    simp [getObj, Sem.run, hb]
  split at h
  · cases h
  · rename_i i v born hf
    have key : ∀ vs : List MapEntry, RvE ρ es vs → ∃ e : MapEntry, Instr.findNow kd vk vs 0 = some (some (i, e.val)) ∧ Rv ρ v e.val := by
      intro vs hes
      obtain ⟨e, g1, g2, _⟩ := find_ok hk hf hes
      exact ⟨e, g1, g2⟩
    rcases mapOf_ok hH hmo hm with ⟨rfl, rfl⟩ | ⟨b, vs, rfl, hb, he⟩
    · obtain ⟨e, g1, g2⟩ := key [] .nil
      simp [Instr.findNow] at g1
    · obtain ⟨e, g1, g2⟩ := key _ he
      refine ⟨if ok then .tuple #[e.val, .bool true] else e.val, ?_, ?_⟩
      · simp only [Instr.lookup, Sem.run_bind, h1, Result.andThen_ok, hget b vs hb, Sem.run_pure, hck, Instr.findKey, h2, g1]
      · cases ok
        · cases h; exact g2
        · cases h; exact .tup (.cons g2 (.cons (.bool _) .nil))
  · rename_i hf
    have key : ∀ vs : List MapEntry, RvE ρ es vs → Instr.findNow kd vk vs 0 = some none := fun vs hes => find_ok hk hf hes
    split at h <;> first | cases h | skip
    rename_i z hz
    obtain ⟨vz, hvz, hcz⟩ := hE.run_zer (w := w) hz
    refine ⟨if ok then .tuple #[vz, .bool false] else vz, ?_, ?_⟩
    · rcases mapOf_ok hH hmo hm with ⟨rfl, rfl⟩ | ⟨b, vs, rfl, hb, he⟩
      · have g1 := key [] .nil
        simp only [Instr.lookup, Sem.run_bind, h1, Result.andThen_ok, Sem.run_pure, hck, Instr.findKey, h2, g1, hvz]
      · have g1 := key _ he
        simp only [Instr.lookup, Sem.run_bind, h1, Result.andThen_ok, hget b vs hb, Sem.run_pure, hck, Instr.findKey, h2, g1, hvz]
    · cases ok
      · exact cst_rv hcz
      · exact .tup (.cons (cst_rv hcz) (.cons (.bool _) .nil))

end

end Go.Gx

namespace Go.Gx
open Go

section
variable {E : Env} (hE : E.Ok) {B : Nat} {ρ : Ren} {H : St} {w : World} (hH : RelH B ρ H w) (hG : Globs E B w) {tm : Tr AV} {ev : Operand → Value} (hev : EvR ρ tm ev)
include hE hH hG hev

theorem aread_ok {o : Op} {a : AV} (h : aread E tm H o = some a) (x : Oper) (hx : x.op = o) : ∃ v, (execOp ev x).run E.P w = .ok (.value v) w ∧ Rv ρ a v := by
  unfold aread at h
  split at h <;> first | cases h | skip
  · obtain ⟨a', ha, h⟩ := one1_some h
    obtain ⟨v, hv, hr⟩ := load_ok hE hH hG h (hev _ _ ha)
    exact ⟨v, by simp [execOp, hx, hv], hr⟩
  · obtain ⟨m', hm, h⟩ := one1_some h
    obtain ⟨x', hx', h⟩ := one1_some h
    obtain ⟨v, hv, hr⟩ := lookup_ok hE hH h (hev _ _ hm) (hev _ _ hx')
    exact ⟨v, by simp [execOp, hx, hv], hr⟩
  · rename_i args ats
    split at h <;> first | cases h | skip
    rename_i y t hl ht
    split at h <;> first | cases h | skip
    rename_i kt et es clock hu hmo
    have h1 := hE.run_und (w := w) hu
    have hlv := opvs_rv hev hl
    generalize hvs : List.map ev _ = vs at hlv
    cases hlv with
    | cons hy hn =>
      cases hn
      rename_i vy
      have hrun : (Builtin.len_ ats x.type #[vy]).run E.P w = .ok (.int .i64 (Int.ofNat es.length)) w := by
        rcases mapOf_ok hH hmo hy with ⟨rfl, rfl⟩ | ⟨b, us, rfl, hb, he⟩
        · simp only [Builtin.len_, ht]; simp [h1, goInt]
        · have hlen := he.length
          simp only [Array.length_toList] at hlen
          simp only [Builtin.len_, ht]
          simp [h1, getObj, Sem.run, hb, goInt, hlen]
      refine ⟨_, ?_, .int _ _⟩
      simp only [execOp, hx, resolve, invoke, builtin, Sem.run_bind, Sem.run_pure, Result.andThen_ok, map_toArray ev, hvs]
      rw [hrun]; rfl

end

/-- A new row of cells. -/
theorem RelB.new {ρ : Ren} {l : List AV} {vs : Array Value} {e : TypeId} (h : RvL ρ l vs.toList) (gr : Bool) (n : Nat) (hn : n = l.length) :
    RelB ρ (.cells (Tr.putL l 0 .nil) n e 1 gr) vs.size (.cells vs e (0, 0)) := by
  subst hn
  have hlen := h.length
  simp only [Array.length_toList] at hlen
  refine .cells (fun i a ha => ?_) (by omega) (fun _ => hlen.symm) (.inl ⟨rfl, rfl⟩)
  rw [Tr.get_putL] at ha
  split at ha
  · rename_i hi
    simp only [Nat.sub_zero] at ha
    obtain ⟨v, hv, hr⟩ := h.get ha
    exact ⟨by omega, v, by simpa using hv, hr⟩
  · cases ha

theorem repl_rv {ρ : Ren} {l : List AV} {vs : List Value} (h : RvL ρ l vs) : ∀ n, RvL ρ (repl l n) (List.flatten (List.replicate n vs))
  | 0 => .nil
  | n + 1 => by simp only [repl, List.replicate_succ, List.flatten_cons]; exact h.append (repl_rv h n)

theorem flatten_get (vs : List Value) : ∀ (n i : Nat), i < n * vs.length → (List.flatten (List.replicate n vs))[i]? = vs[i % vs.length]?
  | 0, i, h => by simp at h
  | n + 1, i, h => by
    simp only [List.replicate_succ, List.flatten_cons]
    by_cases hi : i < vs.length
    · rw [List.getElem?_append_left hi, Nat.mod_eq_of_lt hi]
    · rw [List.getElem?_append_right (by omega), flatten_get vs n (i - vs.length) (by rw [Nat.add_mul] at h; omega)]
      congr 1
      rw [← Nat.mod_eq_sub_mod (by omega)]

theorem flatten_len (vs : List Value) : ∀ n, (List.flatten (List.replicate n vs)).length = n * vs.length
  | 0 => by simp
  | n + 1 => by simp only [List.replicate_succ, List.flatten_cons, List.length_append, flatten_len vs n, Nat.add_mul]; omega

/-- The zero cells of `n` elements, as the model writes them. -/
theorem range_map_eq (zero : Array Value) (n : Nat) : (Array.range (n * zero.size)).map (fun i => zero[i % zero.size]!) = (List.flatten (List.replicate n zero.toList)).toArray := by
  apply Array.ext'
  apply List.ext_getElem?
  intro i
  by_cases h : i < n * zero.size
  · have hz : 0 < zero.size := by
      rcases Nat.eq_zero_or_pos zero.size with e | e
      · rw [e] at h; simp at h
      · exact e
    have hm : i % zero.size < zero.size := Nat.mod_lt _ hz
    rw [flatten_get zero.toList n i (by simpa using h)]
    simp [h, hm]
  · have : (List.flatten (List.replicate n zero.toList)).length = n * zero.size := by rw [flatten_len]; simp
    rw [List.getElem?_eq_none (by simp; omega), List.getElem?_eq_none (by rw [List.toList_toArray]; omega)]

/-- A block that an operation makes, and the value that it yields. -/
def Makes (P : Program) (ρ : Ren) (A : ABlk) (f : Nat → AV) (s : Sem Value) : Prop :=
  ∃ (o : Obj) (tot : Nat) (v : Nat → Value), RelB ρ A tot o ∧ (∀ w : World, s.run P w = .ok (v w.heap.size) { w with heap := w.heap.push o }) ∧ ∀ (ρ' : Ren) id k, ρ' id = some k → k.tot = tot → Rv ρ' (f id) (v k.b)

section
variable {E : Env} (hE : E.Ok) {ρ : Ren} {tm : Tr AV} {ev : Operand → Value} (hev : EvR ρ tm ev)
include hE

omit hE in
theorem mkBox_ok {P : Program} {t : TypeId} {a : AV} {A : ABlk} {f : Nat → AV} {v : Value} (h : mkBox t a = some (A, f)) (ha : Rv ρ a v) : Makes P ρ A f (Instr.box t v) := by
  unfold mkBox at h
  split at h <;> first | cases h | skip
  rename_i hne
  have hcells : RvL ρ a.cells v.cells.toList := by
    cases ha <;> first | (exact absurd rfl hne) | (simp only [AV.cells, Value.cells]; assumption) | skip
    all_goals (simp only [AV.cells, Value.cells]; refine .cons ?_ .nil)
    all_goals first | exact .bool _ | exact .int _ _ | (refine .str ?_; assumption) | exact .pnil | (refine .ptr ?_; assumption) | exact .gptr | exact .snil | (refine .slice ?_ ?_ <;> assumption) | (refine .gslice ?_ ?_ ?_ <;> assumption) | (refine .eslice ?_; assumption) | exact .mnil | (refine .map ?_; assumption) | exact .fnil | (refine .fn ?_ ?_ <;> assumption) | (refine .yield ?_; assumption) | exact .inil | (refine .ifc ?_; assumption) | (refine .tup ?_; assumption) | exact .anyi _ _
  refine ⟨.cells v.cells t, v.cells.size, fun b => .pointer (some ⟨b, 0, none⟩), .new hcells false _ rfl, fun w => ?_, fun ρ' id k hk _ => .ptr hk⟩
  simp [Instr.box, newVar, newRow]

theorem mkSlice_ok {t : TypeId} {n : Nat} {l : List (Nat × AV)} {vs : List (Nat × Value)} {A : ABlk} {f : Nat → AV} (h : mkSlice E t n l = some (A, f)) (hl : RvP ρ l vs) :
    Makes E.P ρ A f (Instr.buildSlice t n vs.toArray) := by
  unfold mkSlice at h
  split at h <;> first | cases h | skip
  rename_i elem hu
  split at h <;> first | cases h | skip
  rename_i size z hs hz
  split at h <;> first | cases h | skip
  rename_i zl hle hzc
  split at h <;> first | cases h | skip
  rename_i hzl
  split at h <;> first | cases h | skip
  rename_i r hf
  have hle' := Nat.le_of_ble_eq_true hle
  have hzl' := Nat.eq_of_beq_eq_true hzl
  obtain ⟨i, vz, hi, hiz, hcz⟩ := hE.zer _ _ hz
  obtain ⟨hzr, _⟩ := cells?_rv (cst_rv (ρ := ρ) hcz) hzc
  have hzs : vz.cells.size = size := by have := hzr.length; simp only [Array.length_toList] at this; omega
  -- the cells, all zero
  have hstart : RvL ρ (repl zl n) ((Array.range (n * size)).map (fun i => vz.cells[i % vz.cells.size]!)).toList := by
    rw [← hzs, range_map_eq]
    exact repl_rv hzr n
  obtain ⟨ws, hw, hr⟩ := fill_rv (place' := fun i => some (i * size, size)) (fun i x hx => hx) hl hstart hf
  refine ⟨.cells ws elem, ws.size, fun b => .slice (some ⟨b, 0, none⟩) n n, .new hr false _ rfl, fun w => ?_, fun ρ' id k hk _ => .slice hk (Nat.le_refl _)⟩
  have h1 := hE.run_und (w := w) hu
  have h2 := hE.run_siz (w := w) hs
  have h3 : ¬ n * size > 2 ^ 24 := by omega
  have hzv : (zeroValue elem).run E.P w = .ok vz w := by simp [zeroValue, typeInfo, hi, hiz]
  by_cases h0 : n * size = 0
  · have e : (Array.range (n * size)).map (fun i => (#[] : Array Value)[i % (#[] : Array Value).size]!) = (Array.range (n * size)).map (fun i => vz.cells[i % vz.cells.size]!) := by
      rw [h0]; simp
    simp only [Instr.buildSlice, Sem.run_bind, h1, h2, Result.andThen_ok, if_neg h3, if_pos h0, Sem.run_pure, e, hw]
    simp [newRow]
  · simp only [Instr.buildSlice, Sem.run_bind, h1, h2, Result.andThen_ok, if_neg h3, if_neg h0, Sem.run_pure, hzv, hw]
    simp [newRow]

theorem mkMake_ok {t : TypeId} {l c : AV} {vl vc : Value} {A : ABlk} {f : Nat → AV} (h : mkMake E t l c = some (A, f)) (hl : Rv ρ l vl) (hc : Rv ρ c vc) : Makes E.P ρ A f (Instr.makeSlice t vl vc) := by
  unfold mkMake at h
  split at h <;> first | cases h | skip
  rename_i e kl l kc c hu
  split at h <;> first | cases h | skip
  rename_i l' c' sz z by_ hln hcn hs hz hb
  split at h <;> first | cases h | skip
  rename_i zl hzc hcond
  split at h <;> first | cases h | skip
  rename_i hzl
  have el := nat?_eq hln
  have ec := nat?_eq hcn
  subst el; subst ec
  cases hl; cases hc
  simp only [Bool.and_eq_true] at hcond
  have h3 := Nat.le_of_ble_eq_true hcond.1.1
  have h4 := Nat.le_of_ble_eq_true hcond.1.2
  have h5 := Nat.le_of_ble_eq_true hcond.2
  have hzl' := Nat.eq_of_beq_eq_true hzl
  obtain ⟨i, vz, hi, hiz, hcz⟩ := hE.zer _ _ hz
  obtain ⟨hzr, _⟩ := cells?_rv (cst_rv (ρ := ρ) hcz) hzc
  have hzs : vz.cells.size = sz := by have := hzr.length; simp only [Array.length_toList] at this; omega
  obtain ⟨i', hi', hbi⟩ := hE.byt _ _ hb
  rw [hi] at hi'; cases hi'
  have hstart : RvL ρ (repl zl c') ((Array.range (c' * sz)).map (fun i => vz.cells[i % vz.cells.size]!)).toList := by
    rw [← hzs, range_map_eq]
    exact repl_rv hzr c'
  refine ⟨.cells ((Array.range (c' * sz)).map (fun i => vz.cells[i % vz.cells.size]!)) e, _, fun b => .slice (some ⟨b, 0, none⟩) l' c', .new hstart false _ rfl, fun w => ?_, fun ρ' id k hk _ => .slice hk h3⟩
  have h1 := hE.run_und (w := w) hu
  have h2 := hE.run_siz (w := w) hs
  have hzv : (zeroValue e).run E.P w = .ok vz w := by simp [zeroValue, typeInfo, hi, hiz]
  have hwl : IntKind.i64.wrap (l' : Int) = l' := by
    show (let m := (l' : Int) % 2 ^ 64; if true && decide (m ≥ 2 ^ 63) then m - 2 ^ 64 else m) = _
    have : (l' : Int) % 2 ^ 64 = l' := Int.emod_eq_of_lt (by omega) (by omega)
    simp only [this]; rw [if_neg (by simp; omega)]
  have hwc : IntKind.i64.wrap (c' : Int) = c' := by
    show (let m := (c' : Int) % 2 ^ 64; if true && decide (m ≥ 2 ^ 63) then m - 2 ^ 64 else m) = _
    have : (c' : Int) % 2 ^ 64 = c' := Int.emod_eq_of_lt (by omega) (by omega)
    simp only [this]; rw [if_neg (by simp; omega)]
  have hmul : (i.bytes : Int) * (c' : Int) ≤ 2 ^ 48 := by
    have : i.bytes * c' ≤ 65536 * 65536 := Nat.mul_le_mul (by omega) h4
    have h' : ((i.bytes * c' : Nat) : Int) ≤ ((65536 * 65536 : Nat) : Int) := by exact_mod_cast this
    rw [Int.natCast_mul] at h'
    omega
  have hbad : ¬ ((((c' : Int) < 0 || (i.bytes : Int) * (c' : Int) > 2 ^ 48) || (l' : Int) < 0 || (l' : Int) > (c' : Int)) = true) := by
    simp only [Bool.or_eq_true, decide_eq_true_eq]; omega
  have hti : (typeInfo e).run E.P w = .ok i w := by simp [typeInfo, hi]
  have e1 : ((c' : Int).toNat) = c' := by simp
  have e2 : ((l' : Int).toNat) = l' := by simp
  by_cases h0 : c' * sz = 0
  · have e : (Array.range (c' * sz)).map (fun i => (#[] : Array Value)[i % (#[] : Array Value).size]!) = (Array.range (c' * sz)).map (fun i => vz.cells[i % vz.cells.size]!) := by
      rw [h0]; simp
    simp only [Instr.makeSlice, Sem.run_bind, h1, asInt, asIntOf, Result.andThen_ok, Sem.run_pure, hti, hwl, hwc, if_neg hbad, run_askRoom, e1, h2, if_pos h0, e, e2]
    simp [newRow]
  · simp only [Instr.makeSlice, Sem.run_bind, h1, asInt, asIntOf, Result.andThen_ok, Sem.run_pure, hti, hwl, hwc, if_neg hbad, run_askRoom, e1, h2, if_neg h0, hzv, e2]
    simp [newRow]

include hev

/-- The operations that make one block. -/
theorem amk_ok {o : Op} {A : ABlk} {f : Nat → AV} (h : amk E tm o = some (A, f)) (x : Oper) (hx : x.op = o) :
    ∃ (ob : Obj) (tot : Nat) (v : Nat → Value), RelB ρ A tot ob ∧ (∀ w : World, (execOp ev x).run E.P w = .ok (.value (v w.heap.size)) { w with heap := w.heap.push ob }) ∧
      ∀ (ρ' : Ren) id k, ρ' id = some k → k.tot = tot → Rv ρ' (f id) (v k.b) := by
  have lift : ∀ {s : Sem Value}, Makes E.P ρ A f s → (execOp ev x = (do pure (.value (← s)) : Sem Next)) →
      ∃ (ob : Obj) (tot : Nat) (v : Nat → Value), RelB ρ A tot ob ∧ (∀ w : World, (execOp ev x).run E.P w = .ok (.value (v w.heap.size)) { w with heap := w.heap.push ob }) ∧
      ∀ (ρ' : Ren) id k, ρ' id = some k → k.tot = tot → Rv ρ' (f id) (v k.b) := by
    intro s hm he
    obtain ⟨ob, tot, v, h1, h2, h3⟩ := hm
    exact ⟨ob, tot, v, h1, fun w => by rw [he]; simp [h2 w], h3⟩
  unfold amk at h
  split at h <;> first | cases h | skip
  · rename_i t
    split at h <;> first | cases h | skip
    rename_i z hz
    obtain ⟨i, vz, hi, hiz, hcz⟩ := hE.zer _ _ hz
    obtain ⟨ob, tot, v, h1, h2, h3⟩ := mkBox_ok (P := E.P) h (cst_rv (ρ := ρ) hcz)
    refine ⟨ob, tot, v, h1, fun w => ?_, h3⟩
    have h4 := h2 w
    have hzv : (zeroValue t).run E.P w = .ok vz w := by simp [zeroValue, typeInfo, hi, hiz]
    have h5 : (Instr.alloc t true (.tuple #[])).run E.P w = .ok (v w.heap.size) { w with heap := w.heap.push ob } := by
      simp only [Instr.alloc, Instr.box, Sem.run_bind, hzv, Result.andThen_ok] at h4 ⊢
      exact h4
    simp only [execOp, hx, Sem.run_bind, h5, Result.andThen_ok, Sem.run_pure]
  · obtain ⟨a', ha, h⟩ := one1_some h
    exact lift (mkBox_ok h (hev _ _ ha)) (by simp only [execOp, hx])
  · split at h <;> first | cases h | skip
    rename_i l hl
    exact lift (mkSlice_ok hE h (partsL_rv hev hl)) (by simp only [execOp, hx, map_toArray])
  · split at h
    · cases h
      refine lift (s := Instr.makeMap _ _) ⟨.map #[] 0, 0, fun b => .map (some b), .map .nil, fun w => ?_, fun ρ' id k hk _ => .map hk⟩ (by simp only [execOp, hx]; rfl)
      simp [Instr.makeMap]
    · obtain ⟨a', ha, h⟩ := one1_some h
      split at h <;> first | cases h | skip
      rename_i kt et k n hu
      have hav := hev _ _ ha
      generalize hvc : ev _ = vc at hav
      cases hav
      refine lift (s := Instr.makeMap _ (some _)) ⟨.map #[] 0, 0, fun b => .map (some b), .map .nil, fun w => ?_, fun ρ' id k hk _ => .map hk⟩ (by simp only [execOp, hx, Option.map_some, hvc]; rfl)
      have h1 := hE.run_und (w := w) hu
      simp [Instr.makeMap, h1, asInt, asIntOf]
  · obtain ⟨a', ha, h⟩ := one1_some h
    obtain ⟨b', hb, h⟩ := one1_some h
    exact lift (mkMake_ok hE h (hev _ _ ha) (hev _ _ hb)) (by simp only [execOp, hx])

end

end Go.Gx
