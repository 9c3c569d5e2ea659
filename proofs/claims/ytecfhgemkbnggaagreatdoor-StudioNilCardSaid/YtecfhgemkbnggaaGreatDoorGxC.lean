/-
  The soundness of that machine, second part: operations that make and write blocks.
-/
import Derived.Test.YtecfhgemkbnggaaGreatDoorGxB
import Derived.Laws.BytesString
import Derived.Laws.RangeString
import Derived.Laws.Append
import Derived.Lib.UnsafeStr
set_option linter.unusedVariables false
set_option linter.unusedSimpArgs false
set_option linter.unusedSectionVars false

namespace Go.Gx
open Go

/- The operations that write: memory cells. -/

theorem one_rv {ρ : Ren} {a : AV} {v : Value} (h : Rv ρ a v) (h1 : a.one = true) : v.oneCell' = true := by
  cases h <;> first | rfl | (simp [AV.one] at h1)

theorem all_one_rv {ρ : Ren} : ∀ {l : List AV} {vs : List Value}, RvL ρ l vs → l.all AV.one = true → ∀ v ∈ vs, v.oneCell' = true
  | _, _, .nil, _, v, hv => by simp at hv
  | _, _, .cons e r, h, v, hv => by
    simp only [List.all_cons, Bool.and_eq_true] at h
    rcases List.mem_cons.1 hv with rfl | hv
    · exact one_rv e h.1
    · exact all_one_rv r h.2 v hv

theorem setSelf (w : World) {b : Nat} {o : Obj} (h : w.heap[b]? = some o) : ({ w with heap := w.heap.setIfInBounds b o } : World) = w := by
  cases w with
  | mk heap tape drawn os output =>
    congr 1
    apply Array.ext_getElem?
    intro i
    by_cases e : b = i
    · subst e
      have hlt : b < heap.size := (Array.getElem?_eq_some_iff.1 h).1
      rw [Array.getElem?_setIfInBounds_self_of_lt hlt]; exact h.symm
    · rw [Array.getElem?_setIfInBounds_ne e]

theorem setSet (h : Array Obj) (b : Nat) (o o' : Obj) : (h.setIfInBounds b o).setIfInBounds b o' = h.setIfInBounds b o' := by
  apply Array.ext_getElem?
  intro i
  by_cases e : b = i
  · subst e
    by_cases hlt : b < h.size
    · rw [Array.getElem?_setIfInBounds_self_of_lt (by simpa using hlt), Array.getElem?_setIfInBounds_self_of_lt hlt]
    · rw [Array.getElem?_eq_none (by simp; omega), Array.getElem?_eq_none (by simp; omega)]
  · rw [Array.getElem?_setIfInBounds_ne e, Array.getElem?_setIfInBounds_ne e, Array.getElem?_setIfInBounds_ne e]

/-- Cells are written one after another. -/
theorem storeCells_run {P : Program} {b o : Nat} {t : TypeId} {lo hi : Nat} : ∀ (vs : List Value) (i : Nat) (cur : Array Value) (w : World), w.heap[b]? = some (.cells cur t (lo, hi)) →
    o + i + vs.length ≤ cur.size → (∀ j, j < vs.length → ¬ (lo ≤ o + i + j ∧ o + i + j < hi)) → (∀ v ∈ vs, v.oneCell' = true) →
    ∃ cs : Array Value, cs.size = cur.size ∧ (∀ m, cs[m]? = if o + i ≤ m ∧ m < o + i + vs.length then vs[m - (o + i)]? else cur[m]?) ∧
      (storeCells ⟨b, o, none⟩ vs i).run P w = .ok () { w with heap := w.heap.setIfInBounds b (.cells cs t (lo, hi)) }
  | [], i, cur, w, hg, _, _, _ => by
    refine ⟨cur, rfl, fun m => ?_, ?_⟩
    · rw [if_neg (by simp only [List.length_nil]; omega)]
    · rw [setSelf w hg]; rfl
  | v :: vs, i, cur, w, hg, hl, hf, h1 => by
    simp only [List.length_cons] at hl
    have hlt : b < w.heap.size := (Array.getElem?_eq_some_iff.1 hg).1
    have hi' : o + i < cur.size := by omega
    have hst : (store (⟨b, o + i, none⟩ : Addr) v).run P w = .ok () { w with heap := w.heap.setIfInBounds b (.cells (cur.setIfInBounds (o + i) v) t (lo, hi)) } := by
      rw [run_store P w _ v _ (h1 v (by simp))]
      have hc : w.cell? ⟨b, o + i, none⟩ = some cur[o + i] := by simp [World.cell?, hg, hi']
      have hz : w.frozen? ⟨b, o + i, none⟩ = false := by
        have := hf 0 (by simp)
        simp only [World.frozen?, hg, Bool.and_eq_false_iff, decide_eq_false_iff_not]
        simp only [Nat.add_zero] at this
        omega
      have he : w.setCell ⟨b, o + i, none⟩ v = { w with heap := w.heap.setIfInBounds b (.cells (cur.setIfInBounds (o + i) v) t (lo, hi)) } := by
        unfold World.setCell
        congr 1
        apply Array.ext_getElem?
        intro m
        rw [Array.getElem?_modify]
        by_cases e : b = m
        · subst e
          rw [Array.getElem?_setIfInBounds_self_of_lt hlt, if_pos rfl, hg]; rfl
        · rw [Array.getElem?_setIfInBounds_ne e, if_neg e]
      simp only [hc, hz, Bool.false_eq_true, if_false, he]
    obtain ⟨cs, hs, hcs, hr⟩ := storeCells_run (P := P) (b := b) (o := o) (t := t) (lo := lo) (hi := hi) vs (i + 1) (cur.setIfInBounds (o + i) v)
      { w with heap := w.heap.setIfInBounds b (.cells (cur.setIfInBounds (o + i) v) t (lo, hi)) } (by simp only [Array.getElem?_setIfInBounds_self_of_lt hlt]) (by simp; omega)
      (fun j hj => by have := hf (j + 1) (by simp; omega); rwa [show o + i + (j + 1) = o + (i + 1) + j by omega] at this) (fun x hx => h1 x (by simp [hx]))
    refine ⟨cs, by simpa using hs, fun m => ?_, ?_⟩
    · rw [hcs m]
      by_cases e : m = o + i
      · subst e
        rw [if_neg (by omega), if_pos (by simp only [List.length_cons]; omega), Array.getElem?_setIfInBounds_self_of_lt hi']
        simp
      · rw [Array.getElem?_setIfInBounds_ne (Ne.symm e)]
        by_cases hm : o + (i + 1) ≤ m ∧ m < o + (i + 1) + vs.length
        · rw [if_pos hm, if_pos (by simp only [List.length_cons]; omega), show m - (o + i) = (m - (o + (i + 1))) + 1 by omega]
          simp
        · rw [if_neg hm, if_neg (by simp only [List.length_cons]; omega)]
    · simp only [storeCells, Addr.add_none, Sem.run_bind, hst, Result.andThen_ok, hr, setSet]

section
variable {E : Env} (hE : E.Ok) {B : Nat} {ρ : Ren} {H : St} {w : World} (hH : RelH B ρ H w) {β : Type} {r : β}
include hH

/-- Cells of ours are written. -/
theorem writeCells_ok {P : Program} {id off : Nat} {l : List AV} {k : St → Option β} {kb : Bk} {vs : List Value} (h : writeCells H id off l k = some r) (hk : ρ id = some kb) (hl : RvL ρ l vs) (h1 : l.all AV.one = true) :
    ∃ H' w', k H' = some r ∧ (storeCells ⟨kb.b, off, none⟩ vs).run P w = .ok () w' ∧ Res B ρ H w ρ H' w' := by
  unfold writeCells at h
  split at h <;> first | cases h | skip
  rename_i c n e fz g hb
  split at h <;> first | cases h | skip
  rename_i hc
  rw [Bool.and_eq_true] at hc
  have h2 := Nat.le_of_ble_eq_true hc.1
  have h3 := Nat.le_of_ble_eq_true hc.2
  rw [Tr.putLK_eq, Tr.setK_eq] at h
  obtain ⟨o, ho, hr⟩ := hH.blk id _ kb hb hk
  have hlen := hl.length
  cases kb with
  | mk b tot =>
    simp only at ho hr hk ⊢
    cases hr with
    | cells a1 a2 a3 a4 =>
      rename_i arr lo hi
      obtain ⟨cs, g1, g2, g3⟩ := storeCells_run (P := P) (b := b) (o := off) (t := e) vs 0 arr w ho (by omega) (fun j hj => a4.ok (by omega) (by omega)) (all_one_rv hl h1)
      refine ⟨_, _, h, g3, hH.setBlk hk hb ?_⟩
      show RelB ρ _ arr.size _
      rw [← g1]
      refine .cells (fun i a hi => ?_) (by omega) (fun hg => by rw [g1]; exact a3 hg) (by rw [g1]; exact a4)
      rw [Tr.get_putL] at hi
      rw [g2 i]
      simp only [Nat.add_zero]
      by_cases hm : off ≤ i ∧ i < off + l.length
      · rw [if_pos hm] at hi
        rw [if_pos (by omega)]
        exact ⟨by omega, hl.get hi⟩
      · rw [if_neg hm] at hi
        rw [if_neg (by omega)]
        exact a1 i a hi

include hE

theorem store_ok {t : TypeId} {a v : AV} {k : St → Option β} {va vv : Value} (h : astore E H t a v k = some r) (ha : Rv ρ a va) (hv : Rv ρ v vv) :
    ∃ H' w', k H' = some r ∧ (Instr.storeAt t va vv).run E.P w = .ok () w' ∧ Res B ρ H w ρ H' w' := by
  unfold astore at h
  split at h <;> first | cases h | skip
  rename_i n hn
  split at h <;> first | cases h | skip
  rename_i l hl
  split at h <;> first | cases h | skip
  rename_i hb
  split at h <;> first | cases h | skip
  have h2 := hE.run_siz (w := w) hn
  obtain ⟨hr, h1⟩ := cells?_rv hv hl
  have hlen := hr.length
  have he := Nat.eq_of_beq_eq_true hb
  simp only [Array.length_toList] at hlen
  cases ha with
  | ptr hk =>
    obtain ⟨H', w', g1, g2, g3⟩ := writeCells_ok (P := E.P) hH h hk hr h1
    refine ⟨H', w', g1, ?_, g3⟩
    have hne : ¬ vv.cells.size ≠ n := by omega
    simp only [Instr.storeAt, Instr.sureAddr, storeVar, Sem.run_bind, Sem.run_pure, Result.andThen_ok, h2, if_neg hne, g2]

omit hE in
/-- A new block. -/
theorem newBlk_ok {A : ABlk} {k : Nat → St → Option β} (h : newBlk H A k = some r) (hB : B ≤ w.heap.size) {tot : Nat} {o : Obj} (hr : RelB ρ A tot o) :
    ∃ H' ρ' id, k id H' = some r ∧ ρ' id = some ⟨w.heap.size, tot⟩ ∧ Le ρ ρ' ∧ Res B ρ H w ρ' H' { w with heap := w.heap.push o } := by
  unfold newBlk at h
  rw [Tr.setK_eq] at h
  exact ⟨_, _, _, h, Ren.add_same _ _ _, Ren.le_add _ hH.none_nxt, hH.push hB (hr.mono (Ren.le_add _ hH.none_nxt))⟩

end

end Go.Gx

namespace Go.Gx
open Go

/- The operations that write: conversions. -/

/-- What a writing operation comes to, whose value a continuation takes. -/
def Does {β : Type} (P : Program) (B : Nat) (ρ : Ren) (H : St) (w : World) (s : Sem Value) (k : AV → St → Option β) (r : β) : Prop :=
  ∃ a H' v ρ' w', k a H' = some r ∧ s.run P w = .ok v w' ∧ Rv ρ' a v ∧ Res B ρ H w ρ' H' w'

/-- The same, of an operation that yields nothing. -/
def DoesU {β : Type} (P : Program) (B : Nat) (ρ : Ren) (H : St) (w : World) (s : Sem Unit) (k : St → Option β) (r : β) : Prop :=
  ∃ H' ρ' w', k H' = some r ∧ s.run P w = .ok () w' ∧ Res B ρ H w ρ' H' w'

theorem bytesCells_rv {ρ : Ren} : ∀ k n : Nat, RvL ρ (bytesCells k n) ((bl k n).map fun b => Value.int .u8 b.toNat)
  | 0, _ => .nil
  | k + 1, n => by
    refine .cons ?_ (bytesCells_rv k (n / 256))
    have : (UInt8.ofNat (n % 256)).toNat = n % 256 := by simp
    show Rv ρ _ (Value.int .u8 ((UInt8.ofNat (n % 256)).toNat : Nat))
    rw [this]
    exact .int _ _

theorem bytesCells_length : ∀ k n : Nat, (bytesCells k n).length = k
  | 0, _ => rfl
  | k + 1, n => by simp [bytesCells, bytesCells_length k]

theorem cellsNum_rv {ρ : Ren} : ∀ {l : List AV} {vs : List Value} {n : Nat}, cellsNum l = some n → RvL ρ l vs →
    ∃ bs : List UInt8, vs = bs.map (fun b => Value.int .u8 b.toNat) ∧ num bs = n ∧ bs.length = l.length
  | _, _, n, h, .nil => by simp only [cellsNum, Option.some.injEq] at h; exact ⟨[], rfl, h, rfl⟩
  | a :: l, v :: vs, n, h, .cons e r => by
    unfold cellsNum at h
    split at h <;> first | cases h | skip
    · rename_i heq; cases heq
    · rename_i x l' heq
      cases heq
      split at h <;> first | cases h | skip
      rename_i b hb
      have := nat?_eq hb
      subst this
      split at h <;> first | cases h | skip
      rename_i m hlt hm
      cases e
      obtain ⟨bs, h1, h2, h3⟩ := cellsNum_rv hm r
      have hlt := blt_lt hlt
      have ht : (UInt8.ofNat b).toNat = b := by simp; omega
      exact ⟨UInt8.ofNat b :: bs, by simp only [List.map_cons, h1, ht], by simp only [num, ht, h2], by simp [h3]⟩

theorem str_of_bytes {ρ : Ren} (bs : List UInt8) : Rv ρ (.str bs.length (num bs)) (.string ⟨bs.toArray⟩) := by
  have := Rv.str (ρ := ρ) (num_lt bs)
  unfold strV at this
  rwa [bl_num] at this

theorem foldl_push : ∀ (bs : List UInt8) (acc : ByteArray), (bs.map fun b => (b.toNat : Int)).foldl (fun r n => r.push (UInt8.ofNat n.toNat)) acc = ⟨acc.data ++ bs.toArray⟩
  | [], acc => by simp
  | b :: bs, acc => by
    rw [List.map_cons, List.foldl_cons, foldl_push bs]
    simp [ByteArray.push]

theorem modify_push (h : Array Obj) (o : Obj) (f : Obj → Obj) : (h.push o).modify h.size f = h.push (f o) := by
  apply Array.ext_getElem?
  intro i
  rw [Array.getElem?_modify, Array.getElem?_push, Array.getElem?_push]
  by_cases e : i = h.size
  · simp [e]
  · rw [if_neg (fun h => e h.symm), if_neg e, if_neg e]

/-- A new row of cells, with more behind them than we speak of. -/
theorem RelB.newG {ρ : Ren} {l : List AV} {vs rest : Array Value} {e : TypeId} (h : RvL ρ l vs.toList) (fz lo hi : Nat) (hf : Frz fz (vs ++ rest).size lo hi) :
    RelB ρ (.cells (Tr.putL l 0 .nil) l.length e fz true) (vs ++ rest).size (.cells (vs ++ rest) e (lo, hi)) := by
  have hlen := h.length
  simp only [Array.length_toList] at hlen
  refine .cells (fun i a ha => ?_) (by simp; omega) (fun h => by cases h) hf
  rw [Tr.get_putL] at ha
  split at ha
  · rename_i hi
    simp only [Nat.sub_zero] at ha
    obtain ⟨v, hv, hr⟩ := h.get ha
    refine ⟨by omega, v, ?_, hr⟩
    rw [Array.getElem?_append_left (by omega)]
    simpa using hv
  · cases ha

theorem cut_append (need old : Nat) (e : TypeId) (t : Nat) : need ≤ (Question.appendCap need old e).cut t := Nat.le_add_right _ _

section
variable {E : Env} (hE : E.Ok) {B : Nat} {ρ : Ren} {H : St} {w : World} (hH : RelH B ρ H w) {β : Type} {r : β}
include hH

theorem Does.here {P : Program} {s : Sem Value} {k : AV → St → Option β} {a : AV} {v : Value} (h : k a H = some r) (hs : s.run P w = .ok v w) (hr : Rv ρ a v) : Does P B ρ H w s k r :=
  ⟨a, H, v, ρ, w, h, hs, hr, .refl hH⟩

/-- A grown row of new cells, behind a draw. -/
theorem newCells_ok {l : List AV} {e : TypeId} {k : Nat → St → Option β} {vs rest : Array Value} {fz lo hi : Nat} (h : newCells H e l fz k = some r) (hB : B ≤ w.heap.size) (hl : RvL ρ l vs.toList)
    (hf : Frz fz (vs ++ rest).size lo hi) (d : Nat) :
    ∃ H' ρ' id, k id H' = some r ∧ ρ' id = some ⟨w.heap.size, (vs ++ rest).size⟩ ∧ Le ρ ρ' ∧
      Res B ρ H w ρ' H' { w with drawn := d, heap := w.heap.push (.cells (vs ++ rest) e (lo, hi)) } := by
  unfold newCells at h
  rw [Tr.putLK_eq] at h
  have hd := hH.drew d
  obtain ⟨H', ρ', id, h1, h2, h3, h4⟩ := newBlk_ok hd.rel h hB (RelB.newG (rest := rest) (e := e) hl fz lo hi hf)
  exact ⟨H', ρ', id, h1, h2, h3, hd.trans h4⟩

omit hH in
theorem stringToBytes_run {P : Program} (e : TypeId) (s : ByteArray) {cap : Nat} {arr : Array Value} (hc : cap = (Question.appendCap s.size 0 e).cut (w.tape w.drawn (.appendCap s.size 0 e)))
    (ha : arr = (s.data.map fun b : UInt8 => Value.int .u8 b.toNat) ++ Array.replicate (cap - s.size) (Value.int .u8 0)) :
    (Conv.stringToBytes e s).run P w = .ok (.slice (some ⟨w.heap.size, 0, none⟩) s.size cap) { w with drawn := w.drawn + 1, heap := w.heap.push (.cells arr e (arr.size, arr.size + 1)) } := by
  have hq : (Question.appendCap s.size 0 e).forced = false := rfl
  subst hc
  have hs : ∀ o : Array Value, ({ w with drawn := w.drawn + 1, heap := w.heap.push (.cells o e (0, 0)) } : World).shape? w.heap.size = some (e, o.size) := by
    intro o; simp [World.shape?]
  simp only [Conv.stringToBytes, Sem.run_bind, run_choose, hq, Bool.false_eq_true, if_false, Result.andThen_ok, newRow, run_newObj, Sem.run_pure, markStringish, run_shape, ← ha, hs,
    run_freeze, World.freeze, Nat.one_ne_zero, modify_push, beq_self_eq_true, if_true]

include hE

theorem conv_ok (hB : B ≤ w.heap.size) {s d : TypeId} {x : AV} {k : AV → St → Option β} {v : Value} (h : aconv E H s d x k = some r) (hx : Rv ρ x v) : Does E.P B ρ H w (convert s d v) k r := by
  unfold aconv at h
  split at h <;> first | cases h | skip
  · -- a string to bytes
    rename_i e len n hs hd
    split at h <;> first | cases h | skip
    rename_i he
    have h1 := hE.run_und (w := w) hs
    have h2 := hE.run_und (w := w) hd
    have h3 := hE.run_und (w := w) he
    cases hx with
    | str hn =>
      obtain ⟨cap, hcq⟩ : ∃ cap, cap = (Question.appendCap (strV len n).size 0 e).cut (w.tape w.drawn (.appendCap (strV len n).size 0 e)) := ⟨_, rfl⟩
      have hrun := stringToBytes_run (P := E.P) (w := w) e (strV len n) hcq rfl
      have hcap : (strV len n).size ≤ cap := by rw [hcq]; exact cut_append _ _ _ _
      have hsz := strV_size len n
      have hl : RvL ρ (bytesCells len n) ((strV len n).data.map fun b : UInt8 => Value.int .u8 b.toNat).toList := by
        have := bytesCells_rv (ρ := ρ) len n
        simpa [strV] using this
      have hds : (strV len n).data.size = len := hsz
      obtain ⟨arr, harr⟩ : ∃ arr, arr = ((strV len n).data.map fun b : UInt8 => Value.int .u8 b.toNat) ++ Array.replicate (cap - (strV len n).size) (Value.int .u8 0) := ⟨_, rfl⟩
      have has : arr.size = cap := by rw [harr]; simp only [Array.size_append, Array.size_map, Array.size_replicate, hds, hsz]; omega
      rw [← harr] at hrun
      obtain ⟨H', ρ', id, g1, g2, g3, g4⟩ := newCells_ok hH (rest := Array.replicate (cap - (strV len n).size) (Value.int .u8 0)) h hB hl
        (lo := arr.size) (hi := arr.size + 1) (.inr (by rw [harr]; exact Nat.le_refl _)) (w.drawn + 1)
      rw [← harr] at g2 g4
      refine ⟨_, H', .slice (some ⟨w.heap.size, 0, none⟩) (strV len n).size cap, ρ', _, g1, ?_, ?_, g4⟩
      · simp only [convert, Sem.run_bind, h1, h2, h3, Result.andThen_ok]
        exact hrun
      · rw [hsz]
        exact .gslice g2 (by omega) (by simp only; omega)
  · -- bytes to a string
    rename_i e x' hs hd
    split at h <;> first | cases h | skip
    rename_i he
    split at h <;> first | cases h | skip
    rename_i l hl
    split at h <;> first | cases h | skip
    rename_i n hn
    have u1 := hE.und _ _ hs
    have u2 := hE.und _ _ hd
    have u3 := hE.und _ _ he
    have key : ∀ (kb : Nat) (off len cap : Nat) (vs : List Value), RvL ρ l vs → (loadCells ⟨kb, off, none⟩ len).run E.P w = .ok vs.toArray w →
        Does E.P B ρ H w (convert s d (.slice (some ⟨kb, off, none⟩) len cap)) k r := by
      intro kb off len cap vs hvs hload
      obtain ⟨bs, rfl, rfl, hlen⟩ := cellsNum_rv hn hvs
      refine Does.here hH h (v := .string ⟨bs.toArray⟩) ?_ ?_
      · rw [run_convert_bytes_string w s d _ _ _ _ u1 u3 u2, run_bytesToString w _ len cap (bs.map fun b => (b.toNat : Int)) (by rw [hload, List.map_map]; rfl), foldl_push]
        simp
      · rw [← hlen]; exact str_of_bytes bs
    unfold sliceCells at hl
    split at hl <;> first | cases hl | skip
    · cases hx
      simp only [cellsNum, Option.some.injEq] at hn
      subst hn
      refine Does.here hH h (v := .string .empty) ?_ ?_
      · rw [run_convert_bytes_string w s d _ _ _ _ u1 u3 u2]; simp [Conv.bytesToString]
      · exact str_of_bytes []
    · cases hx with
      | slice hk hle =>
        obtain ⟨vs, g1, g2, g3⟩ := readCells_ok (E := E) hH hl hk
        rw [Nat.mul_one] at g3
        exact key _ _ _ _ vs g1 g3
    · cases hx with
      | gslice hk hle hc =>
        obtain ⟨vs, g1, g2, g3⟩ := readCells_ok (E := E) hH hl hk
        rw [Nat.mul_one] at g3
        exact key _ _ _ _ vs g1 g3
      | eslice hk =>
        obtain ⟨vs, g1, g2, g3⟩ := readCells_ok (E := E) hH hl hk
        simp only [Nat.zero_mul] at g2
        have : vs = [] := List.length_eq_zero_iff.1 g2
        subst this
        exact key _ _ _ _ [] g1 (by simp [loadCells, loadCellsFrom])
  · -- to an unsafe pointer
    rename_i t hs hd
    have h1 := hE.run_und (w := w) hs
    have h2 := hE.run_und (w := w) hd
    split at h <;> first | cases h | skip
    · cases hx
      exact Does.here hH h (by simp [convert, Conv.unsafePointer, h1, h2]) .pnil
    · split at h <;> first | cases h | skip
      rename_i m c n e fz g hm hb
      split at h <;> first | cases h | skip
      rename_i hlt
      have hlt := blt_lt hlt
      have h3 := hE.run_siz (w := w) hm
      cases hx with
      | ptr hk =>
        obtain ⟨o, ho, hr⟩ := hH.blk _ _ _ hb hk
        rename_i kb
        cases kb with
        | mk b tot =>
          simp only at ho hr
          cases hr with
          | cells a1 a2 a3 a4 =>
            rename_i arr lo hi
            have hsh : w.shape? b = some (e, arr.size) := by simp [World.shape?, ho]
            refine Does.here hH h (v := .pointer (some ⟨b, _, none⟩)) ?_ (.ptr hk)
            have hn : ¬ (arr.size ≤ _) := Nat.not_le.2 (Nat.lt_of_lt_of_le hlt a2)
            simp [convert, Conv.unsafePointer, h1, h2, h3, Conv.seenAt, viewAt, hsh, cellsIn, hn]
  · -- from an unsafe pointer
    rename_i u hs hd
    have h1 := hE.run_und (w := w) hs
    have h2 := hE.run_und (w := w) hd
    split at h <;> first | cases h | skip
    · cases hx
      exact Does.here hH h (by simp [convert, Conv.unsafePointer, h1, h2]) .pnil
    · rename_i id off
      split at h <;> first | cases h | skip
      rename_i c n e fz m hb hm
      split at h <;> first | cases h | skip
      rename_i hlies
      have h3 := hE.run_siz (w := w) hm
      cases hx with
      | ptr hk =>
        obtain ⟨o, ho, hr⟩ := hH.blk _ _ _ hb hk
        rename_i kb
        cases kb with
        | mk b tot =>
          simp only at ho hr
          cases hr with
          | cells a1 a2 a3 a4 =>
            rename_i arr lo hi
            have hsh : w.shape? b = some (e, arr.size) := by simp [World.shape?, ho]
            refine Does.here hH h (v := .pointer (some ⟨b, off, none⟩)) ?_ (.ptr hk)
            have hn : arr.size = n := a3 rfl
            have hl : (variablesAt ⟨b, off, none⟩ u 1).run E.P w = .ok true w := by
              simp only [variablesAt, Sem.run_bind, run_program, Result.andThen_ok, run_shape, hsh, Sem.run_pure, hn]
              rw [hlies]
            simp [convert, Conv.unsafePointer, h1, h2, h3, Conv.seenAt, viewAt, hsh, hl]

end

end Go.Gx

namespace Go.Gx
open Go

/- The operations that write: maps, and the iterators. -/

theorem akey_same {ρ ρ' : Ren} {d : TypeDesc} {x y : AV} {vx vy : Value} (h : akey d x y = some true) (hx : Rv ρ x vx) (hy : Rv ρ' y vy) (n : Nat) : Instr.sameBits n vy vx = true := by
  unfold akey at h
  split at h <;> first | cases h | skip
  · split at h <;> first | cases h | skip
    rename_i k a j b e
    subst e
    simp only [Option.some.injEq, beq_iff_eq] at h
    subst h
    cases hx; cases hy
    cases n <;> simp [Instr.sameBits]
  · rename_i l a m b
    simp only [Option.some.injEq, Bool.and_eq_true] at h
    have h1 := Nat.eq_of_beq_eq_true h.1
    have h2 := Nat.eq_of_beq_eq_true h.2
    subst h1 h2
    cases hx with
    | str ha => cases hy with
      | str hb =>
        have := strV_beq ha hb
        cases n <;> simp only [Instr.sameBits, this, h.1, h.2, Bool.and_self]
  · simp only [Option.some.injEq, beq_iff_eq] at h
    subst h
    cases hx; cases hy
    cases n <;> simp [Instr.sameBits]

theorem RvE.get {ρ : Ren} : ∀ {l : List (AV × AV × Nat)} {es : List MapEntry}, RvE ρ l es → ∀ {i : Nat} {x : AV × AV × Nat}, l[i]? = some x →
    ∃ e, es[i]? = some e ∧ Rv ρ x.1 e.key ∧ Rv ρ x.2.1 e.val ∧ x.2.2 = e.born
  | _, _, .nil, i, x, h => by simp at h
  | _, _, .cons a b c r, 0, x, h => by simp only [List.getElem?_cons_zero, Option.some.injEq] at h; subst h; exact ⟨_, rfl, a, b, c⟩
  | _, _, .cons a b c r, i + 1, x, h => by
    simp only [List.getElem?_cons_succ] at h
    obtain ⟨e, h1, h2⟩ := r.get h
    exact ⟨e, by simpa using h1, h2⟩

theorem RvE.append {ρ : Ren} : ∀ {l l' : List (AV × AV × Nat)} {es es' : List MapEntry}, RvE ρ l es → RvE ρ l' es' → RvE ρ (l ++ l') (es ++ es')
  | _, _, _, _, .nil, h => h
  | _, _, _, _, .cons a b c r, h => .cons a b c (r.append h)

theorem RvE.setAt {ρ : Ren} {f : AV × AV × Nat → AV × AV × Nat} {g : MapEntry → MapEntry} : ∀ {l : List (AV × AV × Nat)} {es : List MapEntry} (i : Nat),
    RvE ρ l es → (∀ x e, l[i]? = some x → es[i]? = some e → Rv ρ x.1 e.key → Rv ρ x.2.1 e.val → x.2.2 = e.born → Rv ρ (f x).1 (g e).key ∧ Rv ρ (f x).2.1 (g e).val ∧ (f x).2.2 = (g e).born) →
    RvE ρ (setAt f l i) (es.modify i g)
  | _, _, i, .nil, _ => by simp [Gx.setAt]; exact .nil
  | _, _, 0, .cons a b c r, h => by
    obtain ⟨h1, h2, h3⟩ := h _ _ rfl rfl a b c
    simp only [Gx.setAt, List.modify_zero_cons]
    exact .cons h1 h2 h3 r
  | _, _, i + 1, .cons a b c r, h => by
    simp only [Gx.setAt, List.modify_succ_cons]
    exact .cons a b c (r.setAt i fun x e h1 h2 => h x e (by simpa using h1) (by simpa using h2))

section
variable {E : Env} (hE : E.Ok) {B : Nat} {ρ : Ren} {H : St} {w : World} (hH : RelH B ρ H w) {β : Type} {r : β}
include hH

omit hH in
theorem getObj_map {P : Program} {b : Nat} {es : Array MapEntry} {clock : Nat} (h : w.heap[b]? = some (.map es clock)) : (getObj b).run P w = .ok (.map es clock) w := by
  simp [getObj, Sem.run, h]

omit hH in
theorem setObj_map {P : Program} {b : Nat} {es : Array MapEntry} {clock : Nat} {o : Obj} (h : w.heap[b]? = some (.map es clock)) : (setObj b o).run P w = .ok () { w with heap := w.heap.setIfInBounds b o } := by
  simp [setObj, Sem.run, h]

omit hH in
theorem stays {P : Program} {old new : Value} (h : Instr.sameBits 10000 old new = true) : (Instr.keyThatStays old new).run P w = .ok new w := by
  simp [Instr.keyThatStays, h]

include hE

/-- What an entry's key comes to, and whether it is there. -/
theorem mapFind_ok {t kt et : TypeId} {kd : TypeDesc} {id : Nat} {key : AV} {es : List (AV × AV × Nat)} {clock : Nat} {vm vk : Value} (ht : E.und.get t = some (.map kt et)) (hkt : E.und.get kt = some kd)
    (hb : H.blk.get id = some (.map es clock)) (hm : Rv ρ (.map id) vm) (hk : Rv ρ key vk) (hp : plainKey kd = true) :
    ∃ (kb : Bk) (vs : Array MapEntry), ρ id = some kb ∧ vm = .map (some kb.b) ∧ w.heap[kb.b]? = some (.map vs clock) ∧ kb.tot = 0 ∧ RvE ρ es vs.toList ∧
      (∀ b, (Instr.checkKey b 10000 kt vk).run E.P w = .ok () w) ∧
      (afind kd key es 0 = some none → (Instr.findKey kt vk vs.toList).run E.P w = .ok none w) ∧
      (∀ i v born, afind kd key es 0 = some (some (i, v, born)) → ∃ e x, vs.toList[i]? = some e ∧ es[i]? = some (x, v, born) ∧ Rv ρ v e.val ∧ born = e.born ∧ Instr.sameBits 10000 e.key vk = true ∧
        (Instr.findKey kt vk vs.toList).run E.P w = .ok (some (i, e.val)) w) := by
  have h2 := hE.run_und (w := w) hkt
  cases hm with
  | map hid =>
    rename_i kb
    obtain ⟨o, ho, hr⟩ := hH.blk _ _ kb hb hid
    generalize htot : kb.tot = tot at hr
    cases hr with
    | map he =>
      refine ⟨kb, _, hid, rfl, ho, htot, he, fun b => checkKey_ok (n := 9999) hp h2, fun hf => ?_, fun i v born hf => ?_⟩
      · have := find_ok hk hf he
        simp only [Instr.findKey, Sem.run_bind, h2, Result.andThen_ok, this, Sem.run_pure]
      · obtain ⟨e, g1, g2, g3, g4, g5, y, g6, g7, g8⟩ := find_ok hk hf he
        exact ⟨e, y, g4, g6, g2, g5, akey_same g8 hk g7 _, by simp only [Instr.findKey, Sem.run_bind, h2, Result.andThen_ok, g1, Sem.run_pure]⟩

theorem mapUpdate_ok {t : TypeId} {m key v : AV} {k : St → Option β} {vm vk vv : Value} (h : amapUpdate E H t m key v k = some r) (hm : Rv ρ m vm) (hk : Rv ρ key vk) (hv : Rv ρ v vv) :
    DoesU E.P B ρ H w (Instr.mapUpdate t vm vk vv) k r := by
  unfold amapUpdate at h
  split at h <;> first | cases h | skip
  rename_i kt et id ht
  split at h <;> first | cases h | skip
  rename_i kd es clock hkt hb
  split at h <;> first | cases h | skip
  rename_i hp
  have h1 := hE.run_und (w := w) ht
  obtain ⟨kb, vs, hid, rfl, ho, htot, he, hck, hnone, hsome⟩ := mapFind_ok hE hH ht hkt hb hm hk hp
  split at h
  · cases h
  · rename_i i a born hf
    rw [Tr.setK_eq] at h
    obtain ⟨e, x, g1, g2, g3, g4, g5, g6⟩ := hsome _ _ _ hf
    have g1' : vs[i]? = some e := by simpa using g1
    refine ⟨_, ρ, _, h, ?_, hH.setBlk (o := .map (vs.modify i fun e => { e with key := vk, val := vv }) clock) hid hb ?_⟩
    · simp only [Instr.mapUpdate, Sem.run_bind, h1, Result.andThen_ok, getObj_map ho, hck, g6, g1', Option.map_some, Option.getD_some, stays g5, setObj_map ho]
    · rw [htot]
      refine .map ?_
      rw [Array.toList_modify]
      exact he.setAt i fun x e _ _ _ _ h5 => ⟨hk, hv, h5⟩
  · rename_i hf
    rw [Tr.setK_eq] at h
    refine ⟨_, ρ, _, h, ?_, hH.setBlk (o := .map (vs.push { key := vk, val := vv, born := clock }) (clock + 1)) hid hb ?_⟩
    · simp only [Instr.mapUpdate, Sem.run_bind, h1, Result.andThen_ok, getObj_map ho, hck, hnone hf, setObj_map ho]
    · rw [htot]
      refine .map ?_
      rw [Array.toList_push]
      exact he.append (.cons hk hv rfl .nil)

theorem mapEntry_ok {t : TypeId} {m key : AV} {k : AV → St → Option β} {vm vk : Value} (h : amapEntry E H t m key k = some r) (hm : Rv ρ m vm) (hk : Rv ρ key vk) :
    Does E.P B ρ H w (Instr.mapEntry t vm vk) k r := by
  unfold amapEntry at h
  split at h <;> first | cases h | skip
  rename_i kt et id ht
  split at h <;> first | cases h | skip
  rename_i kd es clock hkt hb
  split at h <;> first | cases h | skip
  rename_i hp
  have h1 := hE.run_und (w := w) ht
  obtain ⟨kb, vs, hid, rfl, ho, htot, he, hck, hnone, hsome⟩ := mapFind_ok hE hH ht hkt hb hm hk hp
  split at h
  · cases h
  · rename_i i a born hf
    rw [Tr.setK_eq] at h
    obtain ⟨e, x, g1, g2, g3, g4, g5, g6⟩ := hsome _ _ _ hf
    have g1' : vs[i]? = some e := by simpa using g1
    refine ⟨_, _, .tuple #[e.val, goInt e.born], ρ, _, h, ?_, .tup (.cons g3 (.cons (by rw [g4]; exact .int _ _) .nil)), hH.setBlk (o := .map (vs.modify i fun e => { e with key := vk }) clock) hid hb ?_⟩
    · simp only [Instr.mapEntry, Sem.run_bind, h1, Result.andThen_ok, getObj_map ho, hck, g6, g1', Option.map_some, Option.getD_some, stays g5, setObj_map ho, Sem.run_pure]
    · rw [htot]
      refine .map ?_
      rw [Array.toList_modify]
      exact he.setAt i fun x e _ _ _ h4 h5 => ⟨hk, h4, h5⟩
  · rename_i hf
    split at h <;> first | cases h | skip
    rename_i z hz
    rw [Tr.setK_eq] at h
    obtain ⟨vz, hvz, hcz⟩ := hE.run_zer (w := w) hz
    refine ⟨_, _, .tuple #[vz, goInt clock], ρ, _, h, ?_, .tup (.cons (cst_rv hcz) (.cons (.int _ _) .nil)), hH.setBlk (o := .map (vs.push { key := vk, val := vz, born := clock }) (clock + 1)) hid hb ?_⟩
    · simp only [Instr.mapEntry, Sem.run_bind, h1, Result.andThen_ok, getObj_map ho, hck, hnone hf, hvz, setObj_map ho, Sem.run_pure]
    · rw [htot]
      refine .map ?_
      rw [Array.toList_push]
      exact he.append (.cons hk (cst_rv hcz) rfl .nil)

omit hE hH in
theorem bornAt_ok {ρ : Ren} {n : Nat} : ∀ {es : List (AV × AV × Nat)} {vs : List MapEntry} {i j : Nat}, bornAt n es i = some j → RvE ρ es vs → i ≤ j ∧ vs.findIdx? (fun e => (e.born : Int) == (n : Int)) = some (j - i)
  | [], _, i, j, h, .nil => by simp [bornAt] at h
  | x :: es, _, i, j, h, .cons (e := e) (es := vs) a b c r => by
    unfold bornAt at h
    simp only [List.findIdx?_cons]
    cases hb : Nat.beq _ n with
    | true =>
      rw [hb] at h
      simp only [Option.some.injEq] at h
      have := Nat.eq_of_beq_eq_true hb
      have hc : ((e.born : Int) == (n : Int)) = true := by rw [beq_iff_eq, ← c, this]
      simp [hc, h]
    | false =>
      rw [hb] at h
      obtain ⟨h1, h2⟩ := bornAt_ok h r
      have hne := Nat.ne_of_beq_eq_false hb
      have hc : ((e.born : Int) == (n : Int)) = false := by
        rw [beq_eq_false_iff_ne]
        intro he
        have h3 : e.born = n := Int.ofNat.inj he
        exact hne (by rw [← h3]; exact c)
      refine ⟨by omega, ?_⟩
      rw [hc, h2]
      simp only [Bool.false_eq_true, if_false, Option.map_some, Option.some.injEq]
      omega

omit hE in
theorem entryStore_ok {P : Program} {t : TypeId} {m s v : AV} {k : St → Option β} {vm vs vv : Value} (h : aentryStore H m s v k = some r) (hm : Rv ρ m vm) (hs : Rv ρ s vs) (hv : Rv ρ v vv) :
    DoesU P B ρ H w (Instr.entryStore t vm vs vv) k r := by
  unfold aentryStore at h
  split at h <;> first | cases h | skip
  rename_i id ik s'
  split at h <;> first | cases h | skip
  rename_i sn es clock hsn hb
  have := nat?_eq hsn
  subst this
  split at h <;> first | cases h | skip
  rename_i i hi
  rw [Tr.setK_eq] at h
  cases hs
  cases hm with
  | map hid =>
    rename_i kb
    obtain ⟨o, ho, hr⟩ := hH.blk _ _ kb hb hid
    generalize htot : kb.tot = tot at hr
    cases hr with
    | map he =>
      rename_i es'
      have hf := (bornAt_ok hi he).2
      rw [Nat.sub_zero] at hf
      have hf' : es'.findIdx? (fun e => (e.born : Int) == (sn : Int)) = some i := by rw [← List.findIdx?_toArray] at hf; exact hf
      refine ⟨_, ρ, _, h, ?_, hH.setBlk (o := .map (es'.modify i fun e => { e with val := vv }) clock) hid hb ?_⟩
      · simp only [Instr.entryStore, Sem.run_bind, Result.andThen_ok, getObj_map ho, asInt, asIntOf, Sem.run_pure, hf', setObj_map ho]
      · rw [htot]
        refine .map ?_
        rw [Array.toList_modify]
        exact he.setAt i fun x e _ _ h3 _ h5 => ⟨h3, hv, h5⟩

end

end Go.Gx

namespace Go.Gx
open Go

/- The operations that write: iterators, the bytes of a string; append; copy. -/

theorem RvE.all {ρ : Ren} {p : Nat → Bool} : ∀ {l : List (AV × AV × Nat)} {es : List MapEntry}, RvE ρ l es → l.all (fun e => p e.2.2) = es.all (fun e => p e.born)
  | _, _, .nil => rfl
  | _, _, .cons _ _ c r => by simp only [List.all_cons, r.all, c]

theorem RvE.filter {ρ : Ren} {p : Nat → Bool} : ∀ {l : List (AV × AV × Nat)} {es : List MapEntry}, RvE ρ l es → RvE ρ (l.filter fun e => p e.2.2) (es.filter fun e => p e.born)
  | _, _, .nil => .nil
  | (k, x, b) :: l, e :: es, .cons a a' c r => by
    subst c
    simp only [List.filter_cons]
    cases p e.born with
    | true => simp only [if_true]; exact .cons a a' rfl r.filter
    | false => simp only [Bool.false_eq_true, if_false]; exact r.filter

section
variable {E : Env} (hE : E.Ok) {B : Nat} {ρ : Ren} {H : St} {w : World} (hH : RelH B ρ H w) {β : Type} {r : β}
include hH

omit hH in
theorem getObj_other {P : Program} {b : Nat} {o : Obj} (h : w.heap[b]? = some o) (hc : ∀ c t f, o ≠ .cells c t f) : (getObj b).run P w = .ok o w := by
  cases o <;> first | (exact absurd rfl (hc _ _ _)) | simp [getObj, Sem.run, h]

omit hH in
theorem setObj_other {P : Program} {b : Nat} {o o' : Obj} (h : w.heap[b]? = some o) (hc : ∀ c t f, o ≠ .cells c t f) : (setObj b o').run P w = .ok () { w with heap := w.heap.setIfInBounds b o' } := by
  cases o <;> first | (exact absurd rfl (hc _ _ _)) | simp [setObj, Sem.run, h]

include hE

theorem range_ok (hB : B ≤ w.heap.size) {t : TypeId} {x : AV} {k : AV → St → Option β} {vx : Value} (h : arange E H t x k = some r) (hx : Rv ρ x vx) : Does E.P B ρ H w (Instr.range t vx) k r := by
  unfold arange at h
  split at h <;> first | cases h | skip
  · rename_i l n ht
    have h1 := hE.run_und (w := w) ht
    cases hx with
    | str hn =>
      obtain ⟨H', ρ', id, g1, g2, g3, g4⟩ := newBlk_ok hH h hB (.striter (ρ := ρ) (pos := 0) hn)
      exact ⟨_, H', _, ρ', _, g1, by simp only [Instr.range, Sem.run_bind, h1, Result.andThen_ok, Sem.run_pure, run_newObj], .ptr g2, g4⟩
  · rename_i kt et ht
    have h1 := hE.run_und (w := w) ht
    cases hx
    obtain ⟨H', ρ', id, g1, g2, g3, g4⟩ := newBlk_ok hH h hB (.mapnil (ρ := ρ) (seen := #[]))
    exact ⟨_, H', _, ρ', _, g1, by simp only [Instr.range, Sem.run_bind, h1, Result.andThen_ok, Sem.run_pure, run_newObj], .ptr g2, g4⟩
  · rename_i kt et m ht
    have h1 := hE.run_und (w := w) ht
    split at h <;> first | cases h | skip
    rename_i es clock hb
    cases hx with
    | map hid =>
      rename_i kb
      obtain ⟨o, ho, hr⟩ := hH.blk _ _ kb hb hid
      generalize htot : kb.tot = tot at hr
      cases hr with
      | map he =>
        obtain ⟨H', ρ', id, g1, g2, g3, g4⟩ := newBlk_ok hH h hB (.mapiter (ρ := ρ) (since := clock) (stepped := clock) (seen := #[]) hid)
        exact ⟨_, H', _, ρ', _, g1, by simp only [Instr.range, Sem.run_bind, h1, Result.andThen_ok, getObj_map ho, Sem.run_pure, run_newObj], .ptr g2, g4⟩

omit hE in
theorem next_ok {P : Program} {it : AV} {s : Bool} {ty : TypeId} {k : AV → St → Option β} {vi : Value} (h : anext H it s k = some r) (hi : Rv ρ it vi) : Does P B ρ H w (Instr.next vi s ty) k r := by
  unfold anext at h
  split at h <;> first | cases h | skip
  rename_i id
  cases hi with
  | ptr hid =>
    rename_i kb
    split at h <;> first | cases h | skip
    · -- a string
      rename_i len n pos hb
      obtain ⟨o, ho, hr⟩ := hH.blk _ _ kb hb hid
      generalize htot : kb.tot = tot at hr
      cases hr with
      | striter hn =>
        have hg := getObj_other (P := P) (w := w) ho (by intros; simp)
        have hsz := strV_size len n
        split at h
        · rename_i hlt
          have hnl : ¬ pos < (strV len n).size := by
            rw [hsz]; intro hc
            rw [show Nat.blt pos len = true from Nat.ble_eq_true_of_le hc] at hlt; cases hlt
          exact Does.here hH h (v := .tuple #[.bool false]) (by simp only [Instr.next, Sem.run_bind, hg, Result.andThen_ok, if_neg hnl, Sem.run_pure]) (.tup (.cons (.bool _) .nil))
        · rename_i hlt
          have hl : pos < (strV len n).size := by rw [hsz]; exact blt_lt hlt
          split at h <;> first | cases h | skip
          rename_i h128
          have h128 := blt_lt h128
          rw [Tr.setK_eq] at h
          have hget : ((strV len n)[pos]'hl).toNat = byteAt n pos := by
            have h1 := strV_get len n pos (blt_lt hlt)
            rw [getElem?_pos (strV len n) pos hl] at h1
            rw [Option.some.inj h1, toNat_byteAt]
          have hd := decode_ascii (strV len n) pos hl (by rw [hget]; exact h128)
          refine ⟨_, _, .tuple #[.bool true, goInt pos, .int .i32 (byteAt n pos)], ρ, _, h, ?_, .tup (.cons (.bool _) (.cons (.int _ _) (.cons (.int _ _) .nil))),
            hH.setBlk (o := .stringIter (strV len n) (pos + 1)) hid hb ?_⟩
          · simp only [Instr.next, Sem.run_bind, hg, Result.andThen_ok, if_pos hl, hd, setObj_other ho (by intros; simp), Sem.run_pure, hget]
          · rw [htot]; exact .striter hn
    · -- no map
      rename_i since seen last hb
      obtain ⟨o, ho, hr⟩ := hH.blk _ _ kb hb hid
      generalize htot : kb.tot = tot at hr
      cases hr with
      | mapnil =>
        have hg := getObj_other (P := P) (w := w) ho (by intros; simp)
        exact Does.here hH h (v := .tuple #[.bool false]) (by simp only [Instr.next, Sem.run_bind, hg, Result.andThen_ok, Sem.run_pure]) (.tup (.cons (.bool _) .nil))
    · -- a map
      rename_i m since seen last hb
      obtain ⟨o, ho, hr⟩ := hH.blk _ _ kb hb hid
      generalize htot : kb.tot = tot at hr
      split at h <;> first | cases h | skip
      rename_i es clock hbm
      cases hr with
      | mapiter hm =>
        rename_i seen' km
        obtain ⟨om, hom, hrm⟩ := hH.blk _ _ km hbm hm
        generalize htm : km.tot = tm at hrm
        cases hrm with
        | map he =>
          rename_i es'
          have hg := getObj_other (P := P) (w := w) ho (by intros; simp)
          have hgm := getObj_map (P := P) hom
          split at h
          · cases h
          rename_i hcond
          have hall := he.all (p := fun b => decide (b ≥ last))
          have hfil := he.filter (p := fun b => !seen'.toList.contains b)
          have hemp : es.isEmpty = es'.isEmpty := by
            have := he.length
            cases es with
            | nil => simp only [List.length_nil, Array.length_toList] at this; simp [Array.isEmpty, ← this]
            | cons x l => simp only [List.length_cons, Array.length_toList] at this; simp [Array.isEmpty, ← this]
          have hc' : (!seen'.isEmpty && !es'.isEmpty && es'.all (fun e => decide (e.born ≥ last))) = false := by
            rw [Bool.eq_false_iff]
            intro hc
            apply hcond
            rw [hemp, hall]
            simpa using hc
          have hft : (es'.filter fun e => !seen'.contains e.born).toList = es'.toList.filter fun e => !seen'.toList.contains e.born := by simp
          rw [← hft] at hfil
          obtain ⟨left, hlft⟩ : ∃ left, es'.filter (fun e => !seen'.contains e.born) = left := ⟨_, rfl⟩
          rw [hlft] at hfil
          revert h
          generalize es.filter (fun e => !seen'.toList.contains e.2.2) = L at hfil
          intro h
          have hc2 : ¬ ((!seen'.isEmpty && !es'.isEmpty && es'.all (fun e => decide (e.born ≥ last))) = true) := by rw [hc']; simp
          split at h
          · -- nothing is left
            have hl : left = #[] := by
              have := hfil.length
              exact Array.size_eq_zero_iff.1 (by simpa using this.symm)
            subst hl
            refine Does.here hH h (v := .tuple #[.bool false]) ?_ (.tup (.cons (.bool _) .nil))
            simp only [Instr.next, Sem.run_bind, hg, hgm, Result.andThen_ok, hlft, if_neg hc2, Sem.run_pure]
            simp [Question.forced]
          · rename_i e
            split at h <;> first | cases h | skip
            rename_i hs
            rw [Tr.setK_eq] at h
            obtain ⟨e', hl⟩ : ∃ e', left = #[e'] := by
              have := hfil.length
              simp only [List.length_cons, List.length_nil, Array.length_toList] at this
              exact Array.size_eq_one_iff.1 this.symm
            subst hl
            cases hfil with
            | cons ha ha' hb' hn =>
              rename_i ky vl bo
              simp only at hs h hb'
              subst hb'
              refine ⟨_, _, .tuple #[.bool true, e'.key, e'.val], ρ, _, h, ?_, .tup (.cons (.bool _) (.cons ha (.cons ha' .nil))), hH.setBlk (o := .mapIter (some km.b) since (seen'.push e'.born) clock) hid hb ?_⟩
              · simp only [Instr.next, Sem.run_bind, hg, hgm, Result.andThen_ok, hlft, if_neg hc2, Sem.run_pure]
                have hge : ¬ since ≤ e'.born := by omega
                simp [Question.forced, hs, hge, setObj_other ho (by intros; simp)]
              · rw [htot]
                have := RelB.mapiter (ρ := ρ) (since := since) (stepped := clock) (seen := seen'.push e'.born) hm
                simpa using this
          · cases h

end

end Go.Gx

namespace Go.Gx
open Go

/- The operations that write: append, copy, unsafe.String. -/

section
variable {B : Nat} {ρ : Ren} {H : St} {w : World} (hH : RelH B ρ H w) {β : Type} {r : β}
include hH

/-- A name of ours is let go. -/
theorem RelH.kill {id : Nat} {k : Bk} (hk : ρ id = some k) : Res B ρ H w ρ ⟨H.blk.set id none, H.nxt⟩ w := by
  have hlive : ∀ j, (H.blk.set id none).get j ≠ none → H.blk.get j ≠ none ∧ j ≠ id := by
    intro j hj
    by_cases e : j = id
    · subst e; rw [Tr.get_set_same] at hj; exact absurd rfl hj
    · rw [Tr.get_set_ne _ _ _ e] at hj; exact ⟨hj, e⟩
  refine ⟨⟨Le.refl ρ, Nat.le_refl _, fun b _ => ?_, fun j hj _ => ⟨hj, ?_⟩⟩, ⟨Nat.le_refl _, fun _ _ _ => rfl, rfl, rfl, rfl⟩, ⟨hH.fresh, hH.base, hH.lt, ?_, ?_, ?_⟩⟩
  · rintro ⟨j, k', e, rfl, hg⟩
    exact ⟨j, k', e, rfl, (hlive j hg).1⟩
  · have hne : j ≠ id := fun e => by rw [e, hk] at hj; cases hj
    exact Tr.get_set_ne _ _ _ hne
  · intro j j' k₁ l e e' hkl hg hg'
    exact hH.inj j j' k₁ l e e' hkl (hlive j hg).1 (hlive j' hg').1
  · intro j hg
    exact hH.live j (hlive j hg).1
  · intro j A k' hg e
    have hne := (hlive j (by rw [hg]; simp)).2
    rw [Tr.get_set_ne _ _ _ hne] at hg
    exact hH.blk j A k' hg e

/-- A block of ours, written, under a new name. -/
theorem RelH.rename {id : Nat} {k : Bk} {A A' : ABlk} {o : Obj} (hk : ρ id = some k) (hl : H.blk.get id = some A) (hr : RelB ρ A' k.tot o) :
    Res B ρ H w (ρ.add H.nxt k) ⟨(H.blk.set id none).set H.nxt (some A'), Nat.succ H.nxt⟩ { w with heap := w.heap.setIfInBounds k.b o } := by
  have hlt := hH.lt id k hk
  have hnn := hH.none_nxt
  have hin : id < H.nxt := hH.fresh id k hk
  have hlive : ∀ j, ((H.blk.set id none).set H.nxt (some A')).get j ≠ none → j = H.nxt ∨ (j ≠ H.nxt ∧ j ≠ id ∧ H.blk.get j ≠ none) := by
    intro j hj
    by_cases e : j = H.nxt
    · exact .inl e
    · rw [Tr.get_set_ne _ _ _ e] at hj
      by_cases e' : j = id
      · subst e'; rw [Tr.get_set_same] at hj; exact absurd rfl hj
      · rw [Tr.get_set_ne _ _ _ e'] at hj; exact .inr ⟨e, e', hj⟩
  have hown : ∀ j l, ρ j = some l → l.b = k.b → H.blk.get j ≠ none → j = id := fun j l e e2 hg => hH.inj j id l k e hk e2 hg (by rw [hl]; simp)
  refine ⟨⟨Ren.le_add _ hnn, Nat.le_succ _, fun b _ => ?_, fun j hj hlt' => ?_⟩, ⟨by simp, fun b hb hn => ?_, rfl, rfl, rfl⟩, ⟨?_, ?_, ?_, ?_, ?_, ?_⟩⟩
  · rintro ⟨j, k', e, rfl, hg⟩
    rcases Ren.add_cases e with ⟨_, rfl⟩ | ⟨hj, e⟩
    · exact ⟨id, _, hk, rfl, by rw [hl]; simp⟩
    · rcases hlive j hg with h | ⟨_, _, h⟩
      · exact absurd h hj
      · exact ⟨j, k', e, rfl, h⟩
  · have hne : j ≠ H.nxt := Nat.ne_of_lt hlt'
    have hne' : j ≠ id := fun e => by rw [e, hk] at hj; cases hj
    refine ⟨by rw [Ren.add_ne _ _ hne]; exact hj, ?_⟩
    show ((H.blk.set id none).set H.nxt (some A')).get j = _
    rw [Tr.get_set_ne _ _ _ hne, Tr.get_set_ne _ _ _ hne']
  · have hne : k.b ≠ b := fun e => hn ⟨id, k, hk, e, by rw [hl]; simp⟩
    exact Array.getElem?_setIfInBounds_ne hne
  · intro j k' e
    rcases Ren.add_cases e with ⟨rfl, _⟩ | ⟨_, e⟩
    · exact Nat.lt_succ_self _
    · exact Nat.lt_succ_of_lt (hH.fresh j k' e)
  · intro j k' e
    rcases Ren.add_cases e with ⟨_, rfl⟩ | ⟨_, e⟩
    · exact hH.base id _ hk
    · exact hH.base j k' e
  · intro j k' e
    rcases Ren.add_cases e with ⟨_, rfl⟩ | ⟨_, e⟩
    · simpa using hlt
    · simpa using hH.lt j k' e
  · intro j j' l l' e e' hll hg hg'
    rcases hlive j hg with h | ⟨h, h1, h2⟩ <;> rcases hlive j' hg' with h' | ⟨h', h1', h2'⟩
    · rw [h, h']
    · rw [h, Ren.add_same] at e; cases e
      rw [Ren.add_ne _ _ h'] at e'
      exact absurd (hown j' l' e' hll.symm h2') h1'
    · rw [h', Ren.add_same] at e'; cases e'
      rw [Ren.add_ne _ _ h] at e
      exact absurd (hown j l e hll h2) h1
    · rw [Ren.add_ne _ _ h] at e
      rw [Ren.add_ne _ _ h'] at e'
      exact hH.inj j j' l l' e e' hll h2 h2'
  · intro j hg
    rcases hlive j hg with h | ⟨_, _, h2⟩
    · rw [h]; exact Nat.lt_succ_self _
    · exact Nat.lt_succ_of_lt (hH.live j h2)
  · intro j A₂ k' hg e
    rcases hlive j (by rw [hg]; simp) with h | ⟨h, h1, h2⟩
    · subst h
      rw [Ren.add_same] at e; cases e
      rw [Tr.get_set_same] at hg; cases hg
      exact ⟨o, by rw [Array.getElem?_setIfInBounds_self_of_lt hlt], hr.mono (Ren.le_add _ hnn)⟩
    · rw [Ren.add_ne _ _ h] at e
      rw [Tr.get_set_ne _ _ _ h, Tr.get_set_ne _ _ _ h1] at hg
      obtain ⟨o', ho, hr'⟩ := hH.blk j A₂ k' hg e
      have hne : k.b ≠ k'.b := fun e2 => h1 (hown j k' e e2.symm (by rw [hg]; simp))
      exact ⟨o', by rw [Array.getElem?_setIfInBounds_ne hne]; exact ho, hr'.mono (Ren.le_add _ hnn)⟩

/-- The cells that are read. -/
theorem readCells_cells {id off n : Nat} {l : List AV} {k : Bk} (h : readCells H id off n = some l) (hk : ρ id = some k) :
    ∃ vs, RvL ρ l vs ∧ vs.length = n ∧ ∀ j v, vs[j]? = some v → w.cell? ⟨k.b, off + j, none⟩ = some v := by
  unfold readCells at h
  split at h <;> first | cases h | skip
  rename_i c m e fz g hb
  exact take_cells (fun off a ha => hH.cell hk hb ha) h

omit hH in
theorem loadPrefix {P : Program} {b off : Nat} (vs : List Value) (h : ∀ j v, vs[j]? = some v → w.cell? ⟨b, off + j, none⟩ = some v) (m : Nat) (hm : m ≤ vs.length) (d : Nat) :
    (loadCells ⟨b, off, none⟩ m).run P { w with drawn := d } = .ok (vs.take m).toArray { w with drawn := d } := by
  have hl : (vs.take m).length = m := by simp; omega
  have := loadCells_ok (P := P) (w := { w with drawn := d }) (b := b) (off := off) (vs.take m) (fun j v hj => by
    rw [List.getElem?_take] at hj
    split at hj
    · exact h j v hj
    · cases hj)
  rwa [hl] at this

/-- What is appended or copied. -/
theorem src_ok {P : Program} {size n : Nat} {x : AV} {new : List AV} {vx : Value} (h : srcCells H size x = some (new, n)) (hx : Rv ρ x vx) :
    ∃ vs, RvL ρ new vs ∧ vs.length = n * size ∧ (∀ u : World, (Builtin.lenOf vx).run P u = .ok n u) ∧
      ∀ m d, m ≤ n → (Builtin.firstCells size m vx).run P { w with drawn := d } = .ok (vs.take (m * size)).toArray { w with drawn := d } := by
  unfold srcCells at h
  split at h <;> first | cases h | skip
  · rename_i l s
    split at h <;> first | cases h | skip
    rename_i hs
    subst hs
    cases hx
    refine ⟨_, bytesCells_rv _ _, by simp [bl_length], fun u => by simp [Builtin.lenOf, strV_size], fun m d hm => ?_⟩
    simp only [Builtin.firstCells, Sem.run_pure, Nat.mul_one]
    congr 1
    apply Array.ext'
    simp [strV, ByteArray.extract, ByteArray.copySlice, bl_length, List.map_take]
  · cases hx
    exact ⟨[], .nil, by simp, fun u => by simp [Builtin.lenOf], fun m d hm => by simp [Builtin.firstCells]⟩
  · split at h <;> first | cases h | skip
    rename_i l hl
    cases hx with
    | slice hk hle =>
      obtain ⟨vs, g1, g2, g3⟩ := readCells_cells hH hl hk
      exact ⟨vs, g1, g2, fun u => by simp [Builtin.lenOf], fun m d hm => by
        simp only [Builtin.firstCells]
        exact loadPrefix vs g3 _ (by rw [g2]; exact Nat.mul_le_mul_right _ hm) d⟩
  · split at h <;> first | cases h | skip
    rename_i l hl
    cases hx with
    | gslice hk hle hc =>
      obtain ⟨vs, g1, g2, g3⟩ := readCells_cells hH hl hk
      exact ⟨vs, g1, g2, fun u => by simp [Builtin.lenOf], fun m d hm => by
        simp only [Builtin.firstCells]
        exact loadPrefix vs g3 _ (by rw [g2]; exact Nat.mul_le_mul_right _ hm) d⟩
    | eslice hk =>
      obtain ⟨vs, g1, g2, g3⟩ := readCells_cells hH hl hk
      simp only [Nat.zero_mul] at g2
      have : vs = [] := List.length_eq_zero_iff.1 g2
      subst this
      exact ⟨[], g1, by simp, fun u => by simp [Builtin.lenOf], fun m d hm => by
        have : m = 0 := by omega
        subst this
        simp [Builtin.firstCells, loadCells, loadCellsFrom]⟩

end

section
variable {E : Env} (hE : E.Ok) {B : Nat} {ρ : Ren} {H : St} {w : World} (hH : RelH B ρ H w) {β : Type} {r : β}

theorem size_zeroCells (z : Array Value) (n : Nat) : (Builtin.zeroCells z n).size = n * z.size := by simp [Builtin.zeroCells]

theorem fits_ok {E : Env} (hE : E.Ok) {e : TypeId} {size need : Nat} (h : fits E e size need = true) :
    ∃ i z, E.P.info? e = some i ∧ i.zero = some z ∧ z.cells.size = size ∧ i.bytes ≤ 65536 ∧ need ≤ 1048576 := by
  unfold fits at h
  split at h <;> first | cases h | skip
  rename_i n z hn hz
  split at h <;> first | cases h | skip
  rename_i l hl
  simp only [Bool.and_eq_true] at h
  obtain ⟨i, v, hi, hv, hc⟩ := hE.zer _ _ hz
  obtain ⟨i', hi', hb⟩ := hE.byt _ _ hn
  rw [hi] at hi'; cases hi'
  have := (cells?_rv (cst_rv (ρ := fun _ => none) hc) hl).1.length
  simp only [Array.length_toList] at this
  exact ⟨i, v, hi, hv, by have := Nat.eq_of_beq_eq_true h.2; omega, by have := Nat.le_of_ble_eq_true h.1.2; omega, Nat.le_of_ble_eq_true h.1.1⟩

/-- An append that grows. -/
theorem grow_run {P : Program} {w : World} {ats : Array TypeId} {t u e ty : TypeId} {xd : TypeDesc} {i : TypeInfo} {z : Value} {sv xv : Value} {base : Option Addr} {sLen sCap n size : Nat} {old new : List Value}
    (ht : ats[0]? = some t) (hu : ats[1]? = some u) (hut : P.underlying t = some (.slice e)) (huu : P.underlying u = some xd) (hx : ∀ k, xd ≠ .int k) (hi : P.info? e = some i) (hz : i.zero = some z) (hs : i.size = size)
    (hsv : sv = .slice base sLen sCap) (hlen : ∀ u : World, (Builtin.lenOf xv).run P u = .ok n u) (hold : ∀ d, (Builtin.firstCells size sLen sv).run P { w with drawn := d } = .ok old.toArray { w with drawn := d })
    (hnew : ∀ d, (Builtin.firstCells size n xv).run P { w with drawn := d } = .ok new.toArray { w with drawn := d }) (hgt : sCap < sLen + n) (hneed : sLen + n ≤ 1048576) (hb : i.bytes ≤ 65536) :
    ∃ cap, sLen + n ≤ cap ∧ (Builtin.append_ ats ty #[sv, xv]).run P w =
      .ok (.slice (some ⟨w.heap.size, 0, none⟩) (sLen + n) cap) { w with drawn := w.drawn + 1, heap := w.heap.push (.cells (old.toArray ++ new.toArray ++ Builtin.zeroCells z.cells (cap - (sLen + n))) e (0, 0)) } := by
  subst hsv
  refine ⟨_, cut_append (sLen + n) sCap e (w.tape w.drawn (.appendCap (sLen + n) sCap e)), ?_⟩
  have hn : ¬ (sLen + n ≤ sCap) := by omega
  have h63 : ¬ (((sLen + n : Nat) : Int) > IntKind.i64.max ∧ (False ∨ i.bytes = 0)) := by
    intro hc
    have : IntKind.i64.max = 9223372036854775807 := rfl
    omega
  have h48 : ¬ (Builtin.nextslicecap (sLen + n) sCap * i.bytes > 2 ^ 48) := by
    have h1 := nextslicecap_le hgt
    have h2 : Builtin.nextslicecap (sLen + n) sCap * i.bytes ≤ (2 * 1048576) * 65536 := Nat.mul_le_mul (by omega) hb
    omega
  have hq : (Question.appendCap (sLen + n) sCap e).forced = false := rfl
  have hold' := hold (w.drawn + 1)
  have hnew' := hnew (w.drawn + 1)
  have hti : ∀ u : World, (typeInfo e).run P u = .ok i u := fun u => by simp [typeInfo, hi]
  have hsz : ∀ u : World, (sizeOf e).run P u = .ok size u := fun u => by simp [sizeOf, typeInfo, hi, hs]
  have hzv : ∀ u : World, (zeroValue e).run P u = .ok z u := fun u => by simp [zeroValue, typeInfo, hi, hz]
  have hut' : (underlying t).run P w = .ok (.slice e) w := by simp [underlying, hut]
  have huu' : (underlying u).run P w = .ok xd w := by simp [underlying, huu]
  have e0 : (#[Value.slice base sLen sCap, xv] : Array Value)[0]? = some (.slice base sLen sCap) := rfl
  have e1 : (#[Value.slice base sLen sCap, xv] : Array Value)[1]? = some xv := rfl
  simp only [Builtin.append_, ht, hu, e0, e1, Sem.run_bind, hut', huu', Result.andThen_ok, hsz, Sem.run_pure]
  simp only [Bool.false_eq_true, if_false, hlen, Result.andThen_ok, if_neg hn, Sem.run_bind, hti, if_neg h63, if_neg h48, run_choose, hq, run_askRoom, hold', Bool.not_false, if_true, hnew', hzv, newRow, run_newObj, Sem.run_pure]


/-- An append that has room. -/
theorem room_run {P : Program} {w w' : World} {ats : Array TypeId} {t u e ty : TypeId} {xd : TypeDesc} {xv : Value} {base : Option Addr} {sLen sCap n size : Nat} {new : List Value}
    (ht : ats[0]? = some t) (hu : ats[1]? = some u) (hut : P.underlying t = some (.slice e)) (huu : P.underlying u = some xd) (hx : ∀ k, xd ≠ .int k) (hsz : ∀ u : World, (sizeOf e).run P u = .ok size u)
    (hlen : ∀ u : World, (Builtin.lenOf xv).run P u = .ok n u) (hnew : (Builtin.firstCells size n xv).run P w = .ok new.toArray w) (hle : sLen + n ≤ sCap)
    (hst : (match base with | some a => storeCells (a.add (sLen * size)) new | none => pure ()).run P w = .ok () w') :
    (Builtin.append_ ats ty #[.slice base sLen sCap, xv]).run P w = .ok (.slice base (sLen + n) sCap) w' := by
  have hut' : (underlying t).run P w = .ok (.slice e) w := by simp [underlying, hut]
  have huu' : (underlying u).run P w = .ok xd w := by simp [underlying, huu]
  have e0 : (#[Value.slice base sLen sCap, xv] : Array Value)[0]? = some (.slice base sLen sCap) := rfl
  have e1 : (#[Value.slice base sLen sCap, xv] : Array Value)[1]? = some xv := rfl
  simp only [Builtin.append_, ht, hu, e0, e1, Sem.run_bind, hut', huu', Result.andThen_ok, hsz, Sem.run_pure]
  simp only [Bool.false_eq_true, if_false, hlen, Result.andThen_ok, if_pos hle, Sem.run_bind, Bool.not_false, if_true, hnew]
  cases base with
  | none => simp only [Sem.run_pure] at hst; cases hst; rfl
  | some a => simp only at hst; simp only [Sem.run_bind, hst, Result.andThen_ok, Sem.run_pure]

include hE hH

/-- A grown row: the old cells, the new ones, and zeros. -/
theorem grown_ok (hB : B ≤ w.heap.size) {ats : Array TypeId} {t u e ty : TypeId} {xd : TypeDesc} {sv xv : Value} {base : Option Addr} {sLen sCap n size fz : Nat} {old new : List Value} {l : List AV} {k : Nat → St → Option β}
    (ht : ats[0]? = some t) (hu : ats[1]? = some u) (hut : E.und.get t = some (.slice e)) (huu : E.und.get u = some xd) (hx : ∀ k, xd ≠ .int k) (hs : E.siz.get e = some size) (hf : fits E e size (sLen + n) = true)
    (hsv : sv = .slice base sLen sCap) (hlen : ∀ u : World, (Builtin.lenOf xv).run E.P u = .ok n u) (hold : ∀ d, (Builtin.firstCells size sLen sv).run E.P { w with drawn := d } = .ok old.toArray { w with drawn := d })
    (hnew : ∀ d, (Builtin.firstCells size n xv).run E.P { w with drawn := d } = .ok new.toArray { w with drawn := d }) (hgt : sCap < sLen + n) (hol : old.length = sLen * size) (hnl : new.length = n * size)
    (hl : RvL ρ l (old ++ new)) (h : newCells H e l fz k = some r) :
    ∃ a id H' v ρ' w', k id H' = some r ∧ (Builtin.append_ ats ty #[sv, xv]).run E.P w = .ok v w' ∧ a = AV.gslice id 0 (sLen + n) size ∧ Rv ρ' a v ∧ Res B ρ H w ρ' H' w' := by
  obtain ⟨i, z, hi, hz, hzs, hb, hn⟩ := fits_ok hE hf
  obtain ⟨i', hi', his⟩ := hE.siz _ _ hs
  rw [hi] at hi'; cases hi'
  obtain ⟨cap, hcap, hrun⟩ := grow_run (ty := ty) ht hu (hE.und _ _ hut) (hE.und _ _ huu) hx hi hz his hsv hlen hold hnew hgt hn hb
  obtain ⟨H', ρ', id, g1, g2, g3, g4⟩ := newCells_ok hH (vs := old.toArray ++ new.toArray) (rest := Builtin.zeroCells z.cells (cap - (sLen + n))) (lo := 0) (hi := 0) h hB (by simpa using hl) (.inl ⟨rfl, rfl⟩) (w.drawn + 1)
  refine ⟨_, id, H', _, ρ', _, g1, hrun, rfl, .gslice g2 hcap ?_, g4⟩
  simp only [Array.size_append, List.size_toArray, size_zeroCells, hol, hnl, hzs, Nat.zero_add]
  rw [← Nat.add_mul, ← Nat.add_mul]
  congr 1
  omega

end

end Go.Gx

namespace Go.Gx
open Go

section
variable {E : Env} (hE : E.Ok) {B : Nat} {ρ : Ren} {H : St} {w : World} (hH : RelH B ρ H w) {β : Type} {r : β}
include hE hH

theorem append_ok (hB : B ≤ w.heap.size) {ats : Array TypeId} {t u ty : TypeId} {s x : AV} {k : AV → St → Option β} {vs vx : Value} (ht : ats[0]? = some t) (hu : ats[1]? = some u)
    (h : aappend E H t u s x k = some r) (hs : Rv ρ s vs) (hx : Rv ρ x vx) : Does E.P B ρ H w (Builtin.append_ ats ty #[vs, vx]) k r := by
  unfold aappend at h
  split at h <;> first | cases h | skip
  rename_i e xd hut huu
  split at h <;> first | cases h | skip
  rename_i size hxd hsz
  have hxi : ∀ k, xd ≠ .int k := by intro k e; subst e; cases hxd
  split at h <;> first | cases h | skip
  rename_i new n hsrc
  split at h <;> first | cases h | skip
  rename_i hone
  obtain ⟨nv, n1, n2, n3, n4⟩ := src_ok (P := E.P) hH hsrc hx
  have hnew : ∀ d, (Builtin.firstCells (size + 1) n vx).run E.P { w with drawn := d } = .ok nv.toArray { w with drawn := d } := fun d => by
    have := n4 n d (Nat.le_refl _)
    rwa [← n2, List.take_length] at this
  have hnew0 : (Builtin.firstCells (size + 1) n vx).run E.P w = .ok nv.toArray w := hnew w.drawn
  have hszr : ∀ u : World, (sizeOf e).run E.P u = .ok (size + 1) u := fun u => hE.run_siz (w := u) hsz
  have und1 := hE.und _ _ hut
  have und2 := hE.und _ _ huu
  split at h <;> first | cases h | skip
  · -- a nil slice
    cases hs
    split at h
    · -- nothing
      have hnv : nv = [] := List.length_eq_zero_iff.1 (by simpa using n2)
      subst hnv
      have hrun := room_run (ty := ty) (w' := w) (base := none) (sLen := 0) (sCap := 0) ht hu und1 und2 hxi hszr n3 hnew0 (Nat.le_refl _) rfl
      exact Does.here hH h hrun .snil
    · rename_i hn0
      split at h <;> first | cases h | skip
      rename_i hfit
      have hpos : 0 < n := Nat.pos_of_ne_zero hn0
      have hfit' : fits E e (size + 1) (0 + n) = true := by rw [Nat.zero_add]; exact hfit
      obtain ⟨a, id, H', v, ρ', w', g1, g2, g3, g4, g5⟩ := grown_ok (ty := ty) (size := size + 1) hE hH hB (old := []) (base := none) (sLen := 0) (sCap := 0) ht hu hut huu hxi hsz hfit' rfl n3 (fun d => by simp [Builtin.firstCells]) hnew (by omega) (by simp) n2 (by simpa using n1) h
      subst g3
      exact ⟨_, H', v, ρ', w', by simpa using g1, g2, by simpa using g4, g5⟩
  · -- a slice whose capacity is known
    rename_i id off len cap
    cases hs with
    | slice hk hle =>
      rename_i kb
      split at h
      · rename_i hroom
        have hroom := Nat.le_of_ble_eq_true hroom
        split at h
        · have hnv : nv = [] := List.length_eq_zero_iff.1 (by simpa using n2)
          subst hnv
          have hrun := room_run (ty := ty) (w' := w) (base := some ⟨kb.b, off, none⟩) (sLen := len) (sCap := cap) ht hu und1 und2 hxi hszr n3 hnew0 hroom rfl
          exact Does.here hH h hrun (.slice hk hle)
        · obtain ⟨H', w', g1, g2, g3⟩ := writeCells_ok (P := E.P) hH h hk n1 hone
          have hrun := room_run (ty := ty) (w' := w') (base := some ⟨kb.b, off, none⟩) (sLen := len) (sCap := cap) ht hu und1 und2 hxi hszr n3 hnew0 hroom (by simpa using g2)
          exact ⟨_, H', _, ρ, w', g1, hrun, .slice hk hroom, g3⟩
      · rename_i hroom
        have hgt : cap < len + n := by
          rcases Nat.lt_or_ge cap (len + n) with h' | h'
          · exact h'
          · rw [show Nat.ble (len + n) cap = true from Nat.ble_eq_true_of_le h'] at hroom; cases hroom
        split at h <;> first | cases h | skip
        rename_i old hold hfit
        obtain ⟨ov, o1, o2, o3⟩ := readCells_cells hH hold hk
        obtain ⟨a, id', H', v, ρ', w', g1, g2, g3, g4, g5⟩ := grown_ok (ty := ty) (size := size + 1) hE hH hB (old := ov) (base := some ⟨kb.b, off, none⟩) (sLen := len) (sCap := cap) ht hu hut huu hxi hsz hfit rfl n3 (fun d => by
          simp only [Builtin.firstCells]
          have := loadPrefix (P := E.P) ov o3 (len * (size + 1)) (by omega) d
          rwa [← o2, List.take_length, o2] at this) hnew hgt o2 n2 (o1.append n1) h
        subst g3
        exact ⟨_, H', v, ρ', w', g1, g2, g4, g5⟩
  · -- a slice that has grown
    rename_i id len sz
    split at h <;> first | cases h | skip
    · rename_i hsize
      have hnv : nv = [] := List.length_eq_zero_iff.1 (by simpa using n2)
      subst hnv
      cases hs with
      | gslice hk hle hc =>
        rename_i c kb
        have hrun := room_run (ty := ty) (w' := w) (base := some ⟨kb.b, 0, none⟩) (sLen := len) (sCap := c) ht hu und1 und2 hxi hszr n3 hnew0 hle rfl
        exact Does.here hH h hrun (.gslice hk hle hc)
      | eslice hk =>
        rename_i off' kb
        have hrun := room_run (ty := ty) (w' := w) (base := some ⟨kb.b, off', none⟩) (sLen := 0) (sCap := 0) ht hu und1 und2 hxi hszr n3 hnew0 (Nat.le_refl _) rfl
        exact Does.here hH h hrun (.eslice hk)
    · rename_i n nz xx hn0 hsize
      have hsize := Nat.eq_of_beq_eq_true hsize
      subst hsize
      split at h <;> first | cases h | skip
      rename_i c m e' fz hb
      split at h <;> first | cases h | skip
      rename_i oldl hcond hold hfit
      simp only [Bool.and_eq_true] at hcond
      have he := Nat.eq_of_beq_eq_true hcond.1.1
      have hm := Nat.eq_of_beq_eq_true hcond.1.2
      have hfz := Nat.le_of_ble_eq_true hcond.2
      subst he
      have hnpos : 0 < n := by
        rcases Nat.eq_zero_or_pos n with e | e
        · exact absurd e hn0
        · exact e
      unfold kill at h
      rw [Tr.setK_eq] at h
      simp only [Tr.putLK_eq] at h
      have hnlen := n1.length
      have hro : readCells H id 0 (len * (size + 1)) = some oldl := by unfold readCells; rw [hb]; exact hold
      -- what the new row holds, if it is a new one
      have grown : ∀ (kb : Bk) (b off sCap : Nat) (ov : List Value), ρ id = some kb → vs = .slice (some ⟨b, off, none⟩) len sCap → RvL ρ oldl ov → ov.length = len * (size + 1) →
          (∀ d, (Builtin.firstCells (size + 1) len vs).run E.P { w with drawn := d } = .ok ov.toArray { w with drawn := d }) → sCap < len + n →
          Does E.P B ρ H w (Builtin.append_ ats ty #[vs, vx]) k r := by
        intro kb b off sCap ov hk hvs o1 o2 o3 hgt
        have hkill := hH.kill hk
        obtain ⟨i, z, hi, hz, hzs, hby, hneed⟩ := fits_ok hE hfit
        obtain ⟨i', hi', his⟩ := hE.siz _ _ hsz
        rw [hi] at hi'; cases hi'
        obtain ⟨cap, hcap, hrun⟩ := grow_run (ty := ty) (w := w) ht hu und1 und2 hxi hi hz his hvs n3 o3 hnew hgt hneed hby
        have hd := (hkill.rel).drew (w.drawn + 1)
        have hsize : (ov.toArray ++ nv.toArray ++ Builtin.zeroCells z.cells (cap - (len + n))).size = cap * (size + 1) := by
          simp only [Array.size_append, List.size_toArray, size_zeroCells, o2, n2, hzs]
          rw [← Nat.add_mul, ← Nat.add_mul]
          congr 1; omega
        have hlen2 : len * (size + 1) + new.length ≤ cap * (size + 1) := by
          rw [hnlen, n2, ← Nat.add_mul]; exact Nat.mul_le_mul_right _ hcap
        have hrb : RelB ρ (.cells (Tr.putL new (len * (size + 1)) c) (len * (size + 1) + new.length) e' fz true) (ov.toArray ++ nv.toArray ++ Builtin.zeroCells z.cells (cap - (len + n))).size
            (.cells (ov.toArray ++ nv.toArray ++ Builtin.zeroCells z.cells (cap - (len + n))) e' (0, 0)) := by
          refine .cells (fun i a ha => ?_) (by rw [hsize]; exact hlen2) (fun h => by cases h) (.inl ⟨rfl, rfl⟩)
          rw [Tr.get_putL] at ha
          have hol := o1.length
          by_cases hi : len * (size + 1) ≤ i ∧ i < len * (size + 1) + new.length
          · rw [if_pos hi] at ha
            obtain ⟨v, hv, hr⟩ := n1.get ha
            refine ⟨hi.2, v, ?_, hr⟩
            rw [Array.getElem?_append_left (by simp only [Array.size_append, List.size_toArray]; omega), Array.getElem?_append_right (by simp only [List.size_toArray]; omega)]
            simp only [List.size_toArray, o2]
            simpa using hv
          · rw [if_neg hi] at ha
            obtain ⟨o, ho, hr⟩ := hH.blk id _ kb hb hk
            generalize kb.tot = tot at hr
            cases hr with
            | cells a1 a2 a3 a4 =>
              have hlt := (a1 i a ha).1
              obtain ⟨_, ht2⟩ := Tr.take_spec c _ _ _ hold
              have h2 := ht2 i (by omega)
              rw [Nat.zero_add, ha] at h2
              obtain ⟨v, hv, hr⟩ := o1.get h2.symm
              refine ⟨by omega, v, ?_, hr⟩
              rw [Array.getElem?_append_left (by simp only [Array.size_append, List.size_toArray]; omega), Array.getElem?_append_left (by simp only [List.size_toArray]; omega)]
              simpa using hv
        obtain ⟨H', ρ', id', g1, g2, g3, g4⟩ := newBlk_ok hd.rel h hB hrb
        refine ⟨_, H', _, ρ', _, g1, hrun, .gslice g2 hcap ?_, hkill.trans (hd.trans g4)⟩
        simp only [hsize, Nat.zero_add]
      cases hs with
      | eslice hk =>
        rename_i off' kb
        obtain ⟨ov, o1, o2, o3⟩ := readCells_cells hH hro hk
        refine grown kb _ _ 0 ov hk rfl o1 o2 (fun d => ?_) (by omega)
        have : ov = [] := List.length_eq_zero_iff.1 (by simpa using o2)
        subst this
        simp [Builtin.firstCells, loadCells, loadCellsFrom]
      | gslice hk hle hc =>
        rename_i sc kb
        obtain ⟨ov, o1, o2, o3⟩ := readCells_cells hH hro hk
        by_cases hgt : sc < len + n
        · refine grown kb _ _ sc ov hk rfl o1 o2 (fun d => ?_) hgt
          simp only [Builtin.firstCells]
          have := loadPrefix (P := E.P) ov o3 (len * (size + 1)) (by omega) d
          rwa [← o2, List.take_length, o2] at this
        · -- there is room
          cases kb with
          | mk b tot =>
            obtain ⟨o, ho, hr⟩ := hH.blk id _ _ hb hk
            simp only at hc hr ho
            cases hr with
            | cells a1 a2 a3 a4 =>
              rename_i arr lo hi
              have hfitn : len * (size + 1) + nv.length ≤ arr.size := by
                rw [n2, ← Nat.add_mul]
                have : (len + n) * (size + 1) ≤ sc * (size + 1) := Nat.mul_le_mul_right _ (by omega)
                omega
              obtain ⟨cs, g1, g2, g3⟩ := storeCells_run (P := E.P) (b := b) (o := len * (size + 1)) (t := e') nv 0 arr w ho (by omega) (fun j hj => a4.ok (by omega) (by omega)) (all_one_rv n1 hone)
              have hrun := room_run (ty := ty) (base := some ⟨b, 0, none⟩) (sLen := len) (sCap := sc) ht hu und1 und2 hxi hszr n3 hnew0 (by omega) (by simpa using g3)
              have hrb : RelB ρ (.cells (Tr.putL new (len * (size + 1)) c) (len * (size + 1) + new.length) e' fz true) arr.size (.cells cs e' (lo, hi)) := by
                rw [← g1]
                refine .cells (fun i a hi => ?_) (by omega) (fun h => by cases h) (by rw [g1]; exact a4)
                rw [Tr.get_putL] at hi
                rw [g2 i]
                simp only [Nat.add_zero]
                by_cases hm' : len * (size + 1) ≤ i ∧ i < len * (size + 1) + new.length
                · rw [if_pos hm'] at hi
                  rw [if_pos (by omega)]
                  exact ⟨hm'.2, n1.get hi⟩
                · rw [if_neg hm'] at hi
                  rw [if_neg (by omega)]
                  have := a1 i a hi
                  exact ⟨by omega, this.2⟩
              have hren := hH.rename (k := ⟨b, arr.size⟩) hk hb hrb
              unfold newBlk at h
              rw [Tr.setK_eq] at h
              exact ⟨_, _, _, _, _, h, hrun, .gslice (Ren.add_same _ _ _) (by omega) (by simpa using hc), hren⟩

end

end Go.Gx

namespace Go.Gx
open Go

theorem List.all_take {p : AV → Bool} : ∀ (l : List AV) (n : Nat), l.all p = true → (l.take n).all p = true
  | _, 0, _ => by simp
  | [], n + 1, _ => by simp
  | a :: l, n + 1, h => by
    simp only [List.all_cons, Bool.and_eq_true] at h
    simp only [List.take_succ_cons, List.all_cons, Bool.and_eq_true]
    exact ⟨h.1, List.all_take l n h.2⟩

/-- In a row of 'count' bytes, n of them lie side by side from anywhere on. -/
theorem liesAt_bytesAt {P : Program} {e : TypeId} (hc : P.cellsOf e = 1) (count off n : Nat) (hn : off + n ≤ count) : liesAt P P.depth e count off e n = true := by
  have hd : P.depth = (2 * (P.types.size + Made.depth) + 1) + 1 := rfl
  rw [hd]
  simp only [liesAt, Bool.or_eq_true]
  left
  rw [hd]
  simp [rowAt, hc, hn, sameLayout, Nat.mod_one]

section
variable {E : Env} (hE : E.Ok) {B : Nat} {ρ : Ren} {H : St} {w : World} (hH : RelH B ρ H w) {β : Type} {r : β}
include hE hH

theorem copy_ok {ats : Array TypeId} {t ty : TypeId} {d s : AV} {k : AV → St → Option β} {vd vs : Value} (ht : ats[0]? = some t)
    (h : acopy E H t d s k = some r) (hd : Rv ρ d vd) (hs : Rv ρ s vs) : Does E.P B ρ H w (Builtin.copy_ ats ty #[vd, vs]) k r := by
  unfold acopy at h
  split at h <;> first | cases h | skip
  rename_i e hut
  split at h <;> first | cases h | skip
  rename_i size hsz
  split at h <;> first | cases h | skip
  rename_i new n hsrc
  split at h <;> first | cases h | skip
  rename_i hone
  obtain ⟨nv, n1, n2, n3, n4⟩ := src_ok (P := E.P) hH hsrc hs
  have h1 := hE.run_und (w := w) hut
  have h2 := hE.run_siz (w := w) hsz
  have hfc : ∀ m, m ≤ n → (Builtin.firstCells size m vs).run E.P w = .ok (nv.take (m * size)).toArray w := fun m hm => n4 m w.drawn hm
  have e0 : (#[vd, vs] : Array Value)[0]? = some vd := rfl
  have e1 : (#[vd, vs] : Array Value)[1]? = some vs := rfl
  -- what the model does
  have run : ∀ (base : Option Addr) (len cap : Nat) (w' : World), vd = .slice base len cap →
      (match base with | some a => storeCells a (nv.take (Nat.min n len * size)) | none => pure ()).run E.P w = .ok () w' →
      (Builtin.copy_ ats ty #[vd, vs]).run E.P w = .ok (goInt (Nat.min n len)) w' := by
    intro base len cap w' hv hst
    subst hv
    simp only [Builtin.copy_, ht, e0, e1, Sem.run_bind, h1, h2, n3, Result.andThen_ok, hfc _ (Nat.min_le_left n len)]
    cases base with
    | none => simp only [Sem.run_pure] at hst; cases hst; rfl
    | some a => simp only at hst; simp only [Sem.run_bind, hst, Result.andThen_ok, Sem.run_pure]
  have wr : ∀ (id off len cap : Nat) (kb : Bk), ρ id = some kb → vd = .slice (some ⟨kb.b, off, none⟩) len cap → ∀ m, Nat.min n len = m + 1 →
      (writeCells H id off (new.take ((m + 1) * size)) fun H => k (.int .i64 (Int.ofNat (m + 1))) H) = some r → Does E.P B ρ H w (Builtin.copy_ ats ty #[vd, vs]) k r := by
    intro id off len cap kb hk hv m hm hw
    obtain ⟨H', w', g1, g2, g3⟩ := writeCells_ok (P := E.P) hH hw hk (n1.take _) (List.all_take _ _ hone)
    have := run _ _ _ w' hv (by simp only [hm]; exact g2)
    rw [hm] at this
    exact ⟨_, H', _, ρ, w', g1, this, .int _ _, g3⟩
  have zr : ∀ (base : Option Addr) (len cap : Nat), vd = .slice base len cap → Nat.min n len = 0 → k (.int .i64 0) H = some r → Does E.P B ρ H w (Builtin.copy_ ats ty #[vd, vs]) k r := by
    intro base len cap hv hm hw
    have := run _ _ _ w hv (by
      cases base with
      | none => rfl
      | some a => simp only [hm, Nat.zero_mul, List.take_zero]; rfl)
    rw [hm] at this
    exact Does.here hH hw this (.int _ _)
  split at h <;> first | cases h | skip
  · cases hd
    exact zr none 0 0 rfl (Nat.min_zero n) h
  · cases hd with
    | slice hk hle =>
      split at h
      · rename_i hm
        exact zr _ _ _ rfl hm h
      · rename_i m hm
        obtain ⟨j, hj⟩ := Nat.exists_eq_succ_of_ne_zero hm
        rw [hj] at h
        exact wr _ _ _ _ _ hk rfl j hj h
  · cases hd with
    | gslice hk hle hc =>
      split at h
      · rename_i hm
        exact zr _ _ _ rfl hm h
      · rename_i m hm
        obtain ⟨j, hj⟩ := Nat.exists_eq_succ_of_ne_zero hm
        rw [hj] at h
        exact wr _ _ _ _ _ hk rfl j hj h
    | eslice hk =>
      split at h
      · rename_i hm
        exact zr _ _ _ rfl hm h
      · rename_i m hm
        exact absurd (Nat.min_zero n) hm

theorem unsafeString_ok {ats : Array TypeId} {ty : TypeId} {p : AV} {ik : IntKind} {n : Int} {k : AV → St → Option β} {vp : Value}
    (h : abuiltin E H .unsafeString ats [p, .int ik n] k = some r) (hp : Rv ρ p vp) : Does E.P B ρ H w (Builtin.unsafeString_ ats ty #[vp, .int ik n]) k r := by
  have hmax : IntKind.i64.max = 9223372036854775807 := rfl
  simp only [abuiltin] at h
  split at h <;> first | cases h | skip
  · -- nothing
    rename_i pt hn hat
    have hn := nat?_eq hn
    subst hn
    split at h <;> first | cases h | skip
    · cases hp
      have hdef : Builtin.unsafeString_ ats ty #[.pointer none, .int ik ((0 : Nat) : Int)] =
        (do
          let n ← asInt (.int ik ((0 : Nat) : Int))
          let some pt := ats[0]? | stuck "unsafe.String: no argument types"
          if n < 0 then runtimePanic (.error "unsafe.String: len out of range")
          if n > IntKind.i64.max then unsupported (.unsafePointer "String: a length above the largest int")
          if n = 0 then pure (.string .empty)
          else runtimePanic (.error "unsafe.String: ptr is nil and len is not zero")) := rfl
      exact Does.here hH h (by rw [hdef]; simp [asInt, asIntOf, hmax, hat]; rfl) (str_of_bytes [])
    · cases hp
      rename_i id off kb hk
      have hdef : Builtin.unsafeString_ ats ty #[.pointer (some ⟨kb.b, off, none⟩), .int ik ((0 : Nat) : Int)] =
        (do
          let n ← asInt (.int ik ((0 : Nat) : Int))
          let some pt := ats[0]? | stuck "unsafe.String: no argument types"
          if n < 0 then runtimePanic (.error "unsafe.String: len out of range")
          if n > IntKind.i64.max then unsupported (.unsafePointer "String: a length above the largest int")
          if n = 0 then pure (.string .empty)
          else if ← variablesAt ⟨kb.b, off, none⟩ (← elemOf pt) n.toNat then do
            let s ← loadBytes ⟨kb.b, off, none⟩ .empty n.toNat
            freeze ⟨kb.b, off, none⟩ n.toNat
            pure (.string s)
          else unsupported (.unsafePointer "String: not so many bytes at ptr")) := rfl
      exact Does.here hH h (by rw [hdef]; simp [asInt, asIntOf, hmax, hat]; rfl) (str_of_bytes [])
  · rename_i m pt hn hat
    have hn := nat?_eq hn
    subst hn
    split at h <;> first | cases h | skip
    rename_i id off u hu
    split at h <;> first | cases h | skip
    rename_i c cn e f g hb
    split at h <;> first | cases h | skip
    rename_i l hc hl
    split at h <;> first | cases h | skip
    rename_i s hs
    rw [Tr.setK_eq] at h
    simp only [Bool.and_eq_true] at hc
    have he := Nat.eq_of_beq_eq_true hc.1.1
    have hce := Nat.eq_of_beq_eq_true hc.1.2
    have hm := Nat.le_of_ble_eq_true hc.2
    subst he
    have h1 := hE.run_und (w := w) hu
    cases hp with
    | ptr hk =>
      rename_i kb
      cases kb with
      | mk b tot =>
        obtain ⟨vs, g1, g2, g3⟩ := take_cells (fun off a ha => hH.cell hk hb ha) hl
        obtain ⟨bs, rfl, rfl, hlen⟩ := cellsNum_rv hs g1
        obtain ⟨o, ho, hr⟩ := hH.blk id _ _ hb hk
        simp only at ho hr g3
        have hbl : bs.length = m + 1 := by simpa using g2
        cases hr with
        | cells a1 a2 a3 a4 =>
          rename_i arr lo hi
          have hsh : w.shape? b = some (e, arr.size) := by simp [World.shape?, ho]
          have hlt := hH.lt id _ hk
          simp only at hlt
          -- the cells lie inside
          have hin : off + (m + 1) ≤ arr.size := by
            obtain ⟨v, hv⟩ : ∃ v, (bs.map fun b => Value.int .u8 b.toNat)[m]? = some v := ⟨_, List.getElem?_eq_getElem (by simp; omega)⟩
            have := g3 m v hv
            simp only [World.cell?, ho, Option.isSome_none, Bool.false_eq_true, if_false] at this
            have := (Array.getElem?_eq_some_iff.1 this).1
            omega
          have hlies := liesAt_bytesAt (P := E.P) hce (arr.size / E.P.cellsOf e) off (m + 1) (by rw [hce]; simpa using hin)
          have hlb := Lib.run_loadBytes (P := E.P) w bs ⟨b, off, none⟩ .empty (fun j x hx => by
            rw [Addr.add_none]
            exact g3 j _ (by rw [List.getElem?_map, hx]; rfl))
          rw [hbl] at hlb
          have hdef : Builtin.unsafeString_ ats ty #[.pointer (some ⟨b, off, none⟩), .int ik ((m + 1 : Nat) : Int)] =
            (do
              let n ← asInt (.int ik ((m + 1 : Nat) : Int))
              let some pt := ats[0]? | stuck "unsafe.String: no argument types"
              if n < 0 then runtimePanic (.error "unsafe.String: len out of range")
              if n > IntKind.i64.max then unsupported (.unsafePointer "String: a length above the largest int")
              if n = 0 then pure (.string .empty)
              else if ← variablesAt ⟨b, off, none⟩ (← elemOf pt) n.toNat then do
                let s ← loadBytes ⟨b, off, none⟩ .empty n.toNat
                freeze ⟨b, off, none⟩ n.toNat
                pure (.string s)
              else unsupported (.unsafePointer "String: not so many bytes at ptr")) := rfl
          obtain ⟨fr, hfr⟩ : ∃ fr : Nat × Nat, fr = if lo == hi then (off, off + (m + 1)) else (min lo off, max hi (off + (m + 1))) := ⟨_, rfl⟩
          have hfz : w.freeze ⟨b, off, none⟩ (m + 1) = { w with heap := w.heap.setIfInBounds b (.cells arr e fr) } := by
            unfold World.freeze
            rw [if_neg (Nat.succ_ne_zero m)]
            congr 1
            apply Array.ext_getElem?
            intro i
            rw [Array.getElem?_modify]
            by_cases hbi : b = i
            · subst hbi
              rw [if_pos rfl, Array.getElem?_setIfInBounds_self_of_lt hlt, ho, hfr]; rfl
            · rw [if_neg hbi, Array.getElem?_setIfInBounds_ne hbi]
          have hrun : (Builtin.unsafeString_ ats ty #[.pointer (some ⟨b, off, none⟩), .int ik ((m + 1 : Nat) : Int)]).run E.P w = .ok (.string ⟨bs.toArray⟩) { w with heap := w.heap.setIfInBounds b (.cells arr e fr) } := by
            rw [hdef, ← hfz]
            have n1 : ¬ ((m + 1 : Nat) : Int) < 0 := by omega
            have n2 : ¬ ((m + 1 : Nat) : Int) > IntKind.i64.max := by rw [hmax]; omega
            have n3 : ¬ ((m + 1 : Nat) : Int) = 0 := by omega
            have n4 : ((m + 1 : Nat) : Int).toNat = m + 1 := by omega
            simp only [asInt, asIntOf, Sem.run_bind, Sem.run_pure, Result.andThen_ok, hat, if_neg n1, if_neg n2, if_neg n3, n4, elemOf, h1, variablesAt, run_program, run_shape, hsh, hlies, if_true, hlb, run_freeze]
            simp
          refine ⟨_, _, _, ρ, _, h, hrun, ?_, hH.setBlk hk hb ?_⟩
          · rw [← hbl]; exact str_of_bytes bs
          · obtain ⟨fl, fh⟩ := fr
            refine .cells a1 a2 a3 (.inr ?_)
            have hold : (lo = 0 ∧ hi = 0) ∨ hi ≤ f := a4
            have hh : fh = off + (m + 1) ∨ fh = max hi (off + (m + 1)) := by
              split at hfr
              · left; cases hfr; rfl
              · right; cases hfr; rfl
            show fh ≤ max f (off + (m + 1))
            omega

end

end Go.Gx

namespace Go.Gx
open Go

/-- What an operation that neither calls nor leaves comes to. -/
def DoesN {β : Type} (P : Program) (B : Nat) (ρ : Ren) (H : St) (w : World) (s : Sem Next) (k : AV → St → Option β) (r : β) : Prop :=
  ∃ a H' n v ρ' w', k a H' = some r ∧ s.run P w = .ok n w' ∧ (n = .value v ∨ n = .skip ∧ v = undef) ∧ Rv ρ' a v ∧ Res B ρ H w ρ' H' w'

theorem Does.next {β : Type} {P : Program} {B : Nat} {ρ : Ren} {H : St} {w : World} {s : Sem Value} {k : AV → St → Option β} {r : β} (h : Does P B ρ H w s k r) {t : Sem Next}
    (ht : t = (do pure (.value (← s)))) : DoesN P B ρ H w t k r := by
  obtain ⟨a, H', v, ρ', w', h1, h2, h3, h4⟩ := h
  exact ⟨a, H', .value v, v, ρ', w', h1, by rw [ht]; simp [h2], .inl rfl, h3, h4⟩

theorem DoesU.next {β : Type} {P : Program} {B : Nat} {ρ : Ren} {H : St} {w : World} {s : Sem Unit} {k : AV → St → Option β} {r : β} (h : DoesU P B ρ H w s (fun H => k (.tup []) H) r) {t : Sem Next}
    (ht : t = (do s; pure .skip)) : DoesN P B ρ H w t k r := by
  obtain ⟨H', ρ', w', h1, h2, h3⟩ := h
  exact ⟨_, H', .skip, undef, ρ', w', h1, by rw [ht]; simp [h2], .inr ⟨rfl, rfl⟩, undef_rv _, h3⟩

section
variable {E : Env} (hE : E.Ok) {B : Nat} {ρ : Ren} {H : St} {w : World} (hH : RelH B ρ H w) {β : Type} {r : β} {tm : Tr AV} {ev : Operand → Value} (hev : EvR ρ tm ev)
include hE hH hev

theorem awrite_ok (hB : B ≤ w.heap.size) {o : Op} {k : AV → St → Option β} (h : awrite E tm H o k = some r) (x : Oper) (hx : x.op = o) : DoesN E.P B ρ H w (execOp ev x) k r := by
  unfold awrite at h
  split at h <;> first | cases h | skip
  · obtain ⟨a', ha, h⟩ := one1_some h
    obtain ⟨x', hx', h⟩ := one1_some h
    obtain ⟨H', w', h1, h2, h3⟩ := store_ok hE hH h (hev _ _ ha) (hev _ _ hx')
    exact DoesU.next ⟨H', ρ, w', h1, h2, h3⟩ (by simp only [execOp, hx])
  · obtain ⟨x', hx', h⟩ := one1_some h
    exact (conv_ok hE hH hB h (hev _ _ hx')).next (by simp only [execOp, hx])
  · obtain ⟨m', hm, h⟩ := one1_some h
    obtain ⟨x', hx', h⟩ := one1_some h
    obtain ⟨v', hv', h⟩ := one1_some h
    exact (mapUpdate_ok hE hH h (hev _ _ hm) (hev _ _ hx') (hev _ _ hv')).next (by simp only [execOp, hx])
  · obtain ⟨m', hm, h⟩ := one1_some h
    obtain ⟨x', hx', h⟩ := one1_some h
    obtain ⟨v', hv', h⟩ := one1_some h
    exact (mapUpdate_ok hE hH h (hev _ _ hm) (hev _ _ hx') (hev _ _ hv')).next (by simp only [execOp, hx])
  · obtain ⟨m', hm, h⟩ := one1_some h
    obtain ⟨x', hx', h⟩ := one1_some h
    exact (mapEntry_ok hE hH h (hev _ _ hm) (hev _ _ hx')).next (by simp only [execOp, hx])
  · obtain ⟨m', hm, h⟩ := one1_some h
    obtain ⟨s', hs', h⟩ := one1_some h
    obtain ⟨v', hv', h⟩ := one1_some h
    exact (entryStore_ok hH h (hev _ _ hm) (hev _ _ hs') (hev _ _ hv')).next (by simp only [execOp, hx]; rfl)
  · obtain ⟨x', hx', h⟩ := one1_some h
    exact (range_ok hE hH hB h (hev _ _ hx')).next (by simp only [execOp, hx])
  · obtain ⟨x', hx', h⟩ := one1_some h
    exact (next_ok hH h (hev _ _ hx')).next (by simp only [execOp, hx]; rfl)
  · rename_i b args ats
    split at h <;> first | cases h | skip
    rename_i l hl
    have hlv := opvs_rv hev hl
    have hargs : args.map ev = (args.toList.map ev).toArray := map_toArray ev args
    have hrun : execOp ev x = builtin b ats x.type (args.map fun | .const _ => true | _ => false) (args.map ev) := by
      simp only [execOp, hx]; rfl
    unfold abuiltin at h
    split at h <;> first | cases h | skip
    · rename_i s y
      split at h <;> first | cases h | skip
      rename_i t u ht hu
      rw [hargs] at hrun
      generalize hvs : List.map ev args.toList = vs at hlv hrun
      cases hlv with
      | cons h1 hn => cases hn with
        | cons h2 hn =>
          cases hn
          exact (append_ok hE hH hB ht hu h h1 h2).next (by rw [hrun]; rfl)
    · rename_i s y
      split at h <;> first | cases h | skip
      rename_i t ht
      rw [hargs] at hrun
      generalize hvs : List.map ev args.toList = vs at hlv hrun
      cases hlv with
      | cons h1 hn => cases hn with
        | cons h2 hn =>
          cases hn
          exact (copy_ok hE hH ht h h1 h2).next (by rw [hrun]; rfl)
    · rename_i p ik n
      rw [hargs] at hrun
      generalize hvs : List.map ev args.toList = vs at hlv hrun
      cases hlv with
      | cons h1 hn => cases hn with
        | cons h2 hn =>
          cases hn
          cases h2
          exact (unsafeString_ok hE hH (ik := ik) (n := n) (by simp only [abuiltin]; exact h) h1).next (by rw [hrun]; rfl)

theorem aop_ok (hG : Globs E B w) (hB : B ≤ w.heap.size) {o : Op} {k : AV → St → Option β} (h : aop E tm H o k = some r) (x : Oper) (hx : x.op = o) : DoesN E.P B ρ H w (execOp ev x) k r := by
  unfold aop at h
  split at h
  · split at h <;> first | cases h | skip
    rename_i a ha
    obtain ⟨v, h1, h2⟩ := apure_ok hE hev ha x hx
    exact ⟨a, H, _, v, ρ, w, h, h1, .inl rfl, h2, .refl hH⟩
  · split at h <;> first | cases h | skip
    rename_i a ha
    obtain ⟨v, h1, h2⟩ := aread_ok hE hH hG hev ha x hx
    exact ⟨a, H, _, v, ρ, w, h, h1, .inl rfl, h2, .refl hH⟩
  · split at h <;> first | cases h | skip
    rename_i A f ha
    obtain ⟨ob, tot, v, h1, h2, h3⟩ := amk_ok hE hev ha x hx
    obtain ⟨H', ρ', id, g1, g2, g3, g4⟩ := newBlk_ok hH h hB h1
    exact ⟨_, H', _, _, ρ', _, g1, h2 w, .inl rfl, h3 ρ' id _ g2 rfl, g4⟩
  · exact awrite_ok hE hH hev hB h x hx
  · cases h

end

end Go.Gx
