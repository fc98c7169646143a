/-
  Laws for a walk over whole structs: a block by its number, a part of it read and written; zero values; equality of structs.
-/
import Derived.Test.YtgnebofjfmbccaaT
import Derived.Test.YtgnebofjfmbccaaRows
import Derived.Deep.MidRow
import Derived.Deep.Draws
import Derived.BigQuiet
import Derived.Lib.Hide
set_option linter.all false
namespace Go.Proofs.Ytgnebofjfmbccaa
open Go.RowKit

/-! ### A block by its number -/
def _root_.Go.World.at_ (w : World) (b : Nat) : Option Obj := w.heap[b]?
theorem at_def (w : World) (b : Nat) : w.at_ b = w.heap[b]? := rfl
@[go_sem] theorem at_alloc (w : World) (o : Obj) (n : Nat) : (w.alloc o).at_ n = if n = w.heap.size then some o else w.at_ n := by
  show (w.heap.push o)[n]? = _
  rw [Array.getElem?_push]; split <;> simp_all [World.at_]
@[go_sem] theorem at_drew (w : World) (n : Nat) : w.drew.at_ n = w.at_ n := rfl
def setIn (i : Nat) (v : Value) : Obj → Obj
  | .cells c t f => .cells (c.setIfInBounds i v) t f
  | o => o
theorem at_setCell_same (w : World) (b i : Nat) (v : Value) : (w.setCell ⟨b, i, none⟩ v).at_ b = (w.at_ b).map (setIn i v) := by
  simp only [World.at_, World.setCell, Array.getElem?_modify, if_true]
  cases w.heap[b]? with
  | none => rfl
  | some o => cases o <;> rfl
@[go_sem] theorem at_setCell (w : World) (b i n : Nat) (v : Value) : (w.setCell ⟨b, i, none⟩ v).at_ n = if n = b then (w.at_ b).map (setIn i v) else w.at_ n := by
  split
  · rename_i h; subst h; exact at_setCell_same w n i v
  · rename_i h; exact Below.heap_setCell w _ v n h
@[go_sem low] theorem setCell_alloc_if (w : World) (c : Array Value) (t : TypeId) (f : Nat × Nat) (n i : Nat) (v : Value) :
    (w.alloc (.cells c t f)).setCell ⟨n, i, none⟩ v = if n = w.heap.size then w.alloc (.cells (c.setIfInBounds i v) t f) else (w.setCell ⟨n, i, none⟩ v).alloc (.cells c t f) := by
  have e : ∀ W : World, W.setCell ⟨n, i, none⟩ v = { W with heap := W.heap.modify n (setIn i v) } := fun W => by
    simp only [World.setCell]; congr 1
  rw [e, e]
  split <;> rename_i h <;> unfold World.alloc <;> congr 1 <;> apply Array.ext_getElem? <;> intro j <;> simp only [Array.getElem?_modify, Array.getElem?_push, Array.size_modify]
  · subst h
    by_cases hj : j = w.heap.size
    · subst hj; simp [setIn]
    · have : ¬ w.heap.size = j := fun e => hj e.symm
      simp [hj, this]
  · by_cases hj : j = w.heap.size
    · subst hj; simp [h]
    · simp [hj]
@[go_sem] theorem setIn_cells (i : Nat) (v : Value) (c : Array Value) (t : TypeId) (f : Nat × Nat) : setIn i v (.cells c t f) = .cells (c.setIfInBounds i v) t f := rfl

def cellOf : Option Obj → Nat → Option Value
  | some (.cells c _ _), i => c[i]?
  | _, _ => none
def frozenOf : Option Obj → Nat → Bool
  | some (.cells _ _ (lo, hi)), i => lo ≤ i && i < hi
  | _, _ => false
@[go_sem low] theorem cell_at (w : World) (b i : Nat) : w.cell? ⟨b, i, none⟩ = cellOf (w.at_ b) i := by
  simp only [World.cell?, World.at_, cellOf]
  split <;> simp_all
@[go_sem low] theorem frozen_at (w : World) (b i : Nat) : w.frozen? ⟨b, i, none⟩ = frozenOf (w.at_ b) i := by
  simp only [World.frozen?, World.at_, frozenOf]
  split <;> simp_all
@[go_sem] theorem cellOf_cells (c : Array Value) (t : TypeId) (f : Nat × Nat) (i : Nat) : cellOf (some (.cells c t f)) i = c[i]? := rfl
@[go_sem] theorem frozenOf_cells (c : Array Value) (t : TypeId) (i : Nat) : frozenOf (some (.cells c t (0, 0))) i = false := by simp [frozenOf]

/-! ### A part of a block -/
def rowOf : Option Obj → Nat → Nat → Option (List Value)
  | some (.cells c _ _), o, n => if o + n ≤ c.size then some (seg c.toList o n) else none
  | _, _, _ => none
@[go_sem] theorem rowOf_cells (l : List Value) (t : TypeId) (f : Nat × Nat) (o n : Nat) : rowOf (some (.cells l.toArray t f)) o n = if o + n ≤ ln l then some (seg l o n) else none := rfl
theorem rowOf_cell {ob : Option Obj} {o n : Nat} {cs : List Value} (h : rowOf ob o n = some cs) (j : Nat) (hj : j < n) : cellOf ob (o + j) = cs[j]? := by
  unfold rowOf at h
  split at h
  · split at h
    · cases h
      rw [seg_eq, List.getElem?_take_of_lt hj, List.getElem?_drop]; simp [cellOf]
    · cases h
  · cases h
theorem rowOf_length {ob : Option Obj} {o n : Nat} {cs : List Value} (h : rowOf ob o n = some cs) : cs.length = n := by
  unfold rowOf at h
  split at h
  · split at h
    · cases h; simp [seg]; omega
    · cases h
  · cases h
theorem rangeAt_of_row {w : World} {b o n : Nat} {cs : List Value} (h : rowOf (w.at_ b) o n = some cs) : w.rangeAt b o cs := fun j v hv => by
  have hl := rowOf_length h
  have hj := (List.getElem?_eq_some_iff.1 hv).1
  rw [cell_at, rowOf_cell h j (by omega), hv]

/-- 'load T' of a struct or an array, at an address. -/
def loadAgg (T : TypeId) (b o : Nat) : Sem Value := Instr.loadAt T (.pointer (some ⟨b, o, none⟩))
def aggSize (P : Program) (T : TypeId) : Option Nat :=
  match P.underlying T, P.info? T with
  | some (.struct _), some i => some i.size
  | some (.array _ _), some i => some i.size
  | _, _ => none
theorem run_loadAgg (P : Program) (w : World) (T : TypeId) (b o n : Nat) (hn : aggSize P T = some n) :
    (loadAgg T b o).run P w = match rowOf (w.at_ b) o n with | some cs => .ok (.agg cs.toArray) w | none => (loadAgg T b o).run P w := by
  cases hr : rowOf (w.at_ b) o n with
  | none => rfl
  | some cs =>
    have hl := rowOf_length hr
    unfold aggSize at hn
    split at hn <;> simp only [Option.some.injEq, reduceCtorEq] at hn
    all_goals
      rename_i d i hu hi
      exact run_loadAt_mid w b o T cs _ (rangeAt_of_row hr) hu rfl (by rw [hi]; simp [hl, hn])

/-- 'store T' of a struct or an array, at an address. -/
def storeAgg (T : TypeId) (b o : Nat) (cs : Array Value) : Sem Unit := Instr.storeAt T (.pointer (some ⟨b, o, none⟩)) (.agg cs)
def putIn (k : Nat) (m : List Value) : Obj → Obj
  | .cells c t f => .cells (splice c.toList k m).toArray t f
  | o => o
def _root_.Go.World.put_ (w : World) (b k : Nat) (m : List Value) : World := { w with heap := w.heap.modify b (putIn k m) }
@[go_sem] theorem put_alloc (w : World) (l : List Value) (t : TypeId) (f : Nat × Nat) (n k : Nat) (m : List Value) :
    (w.alloc (.cells l.toArray t f)).put_ n k m = if n = w.heap.size then w.alloc (.cells (splice l k m).toArray t f) else (w.put_ n k m).alloc (.cells l.toArray t f) := by
  split <;> rename_i h <;> unfold World.put_ World.alloc <;> congr 1 <;> apply Array.ext_getElem? <;> intro j <;> simp only [Array.getElem?_modify, Array.getElem?_push, Array.size_modify]
  · subst h
    by_cases hj : j = w.heap.size
    · subst hj; simp [putIn]
    · have : ¬ w.heap.size = j := fun e => hj e.symm
      simp [hj, this]
  · by_cases hj : j = w.heap.size
    · subst hj; simp [h]
    · simp [hj]
@[go_sem] theorem put_drew (w : World) (n k : Nat) (m : List Value) : w.drew.put_ n k m = (w.put_ n k m).drew := rfl
@[simp, go_sem] theorem size_put (w : World) (n k : Nat) (m : List Value) : (w.put_ n k m).heap.size = w.heap.size := by simp [World.put_]
@[go_sem] theorem at_put (w : World) (b k n : Nat) (m : List Value) : (w.put_ b k m).at_ n = if n = b then (w.at_ b).map (putIn k m) else w.at_ n := by
  simp only [World.at_, World.put_, Array.getElem?_modify]
  split
  · rename_i h; rw [if_pos h.symm, h]
  · rename_i h; rw [if_neg (fun e => h e.symm)]
@[go_sem] theorem putIn_cells (k : Nat) (m l : List Value) (t : TypeId) (f : Nat × Nat) : putIn k m (.cells l.toArray t f) = .cells (splice l k m).toArray t f := rfl
@[go_sem] theorem splice_all (l m : List Value) (h : ln m = ln l) : splice l 0 m = m := by
  rw [ln_eq, ln_eq] at h; simp [splice, h]
def roomOf : Option Obj → Nat → Nat → Bool
  | some (.cells c _ f), o, n => f == (0, 0) && decide (o + n ≤ c.size)
  | _, _, _ => false
@[go_sem] theorem roomOf_cells (l : List Value) (t : TypeId) (o n : Nat) : roomOf (some (.cells l.toArray t (0, 0))) o n = decide (o + n ≤ ln l) := rfl
theorem setCells_eq_put (b : Nat) : ∀ (m : List Value) (k : Nat) (w : World) (c : Array Value) (t : TypeId) (f : Nat × Nat), w.heap[b]? = some (.cells c t f) → k + m.length ≤ c.size → w.setCells b k m = w.put_ b k m
  | [], k, w, c, t, f, h, _ => by
    have hb := (Array.getElem?_eq_some_iff.1 h).1
    have he : w.heap.modify b (putIn k []) = w.heap := by
      apply Array.ext_getElem?
      intro i
      rw [Array.getElem?_modify]
      split
      · rename_i e; subst e; rw [h]; simp [putIn, splice]
      · rfl
    simp only [World.setCells, World.put_, he]
  | v :: m, k, w, c, t, f, h, hl => by
    have hw : (w.setCell ⟨b, k, none⟩ v).heap[b]? = some (.cells (c.setIfInBounds k v) t f) := by
      have := at_setCell_same w b k v
      rw [at_def, at_def, h] at this; exact this
    rw [World.setCells, setCells_eq_put b m (k + 1) _ _ t f hw (by simp at hl ⊢; omega)]
    simp only [World.put_, World.setCell]
    congr 1
    apply Array.ext_getElem?
    intro i
    simp only [Array.getElem?_modify]
    split
    · rename_i e; subst e
      rw [h]
      simp only [Option.map_some, Option.some.injEq, putIn, Obj.cells.injEq, and_true]
      simp only [Option.isSome_none, Bool.false_eq_true, if_false]
      congr 1
      simp only [List.length_cons] at hl
      apply List.ext_getElem?
      intro j
      simp only [splice, List.getElem?_append, List.length_take, Array.length_toList, List.getElem?_take, List.getElem?_drop, Array.getElem?_toList, Array.getElem?_setIfInBounds, Array.size_setIfInBounds, List.length_cons, List.getElem?_cons]
      (repeat' split) <;> first | rfl | omega | (congr 1; omega)
    · rfl
theorem run_storeAgg (P : Program) (w : World) (T : TypeId) (b o : Nat) (m : List Value) (n : Nat) (hn : aggSize P T = some n) (hm : m.length = n) (h1 : ∀ v ∈ m, v.oneCell' = true) :
    (storeAgg T b o m.toArray).run P w = if roomOf (w.at_ b) o n = true then .ok () (w.put_ b o m) else (storeAgg T b o m.toArray).run P w := by
  split
  · rename_i h
    obtain ⟨c, t, f, hb, h⟩ : ∃ c t f, w.at_ b = some (.cells c t f) ∧ (f == (0, 0) && decide (o + n ≤ c.size)) = true := by
      cases hq : w.at_ b with
      | none => rw [hq] at h; cases h
      | some ob => cases ob <;> rw [hq] at h <;> first | exact ⟨_, _, _, rfl, h⟩ | cases h
    · simp only [Bool.and_eq_true, beq_iff_eq, decide_eq_true_eq] at h
      obtain ⟨rfl, hl⟩ := h
      have hb' : w.heap[b]? = some (.cells c t (0, 0)) := hb
      rw [← setCells_eq_put b m o w c t (0, 0) hb' (by omega)]
      have hsz : (P.info? T).map (·.size) = some m.toArray.size := by
        unfold aggSize at hn
        split at hn <;> simp_all
      have hth : w.there b o m.toArray.size := fun j hj => by
        simp only [List.size_toArray] at hj
        refine ⟨?_, frozen_of_row w b _ c t hb'⟩
        rw [cell_of_row w b _ c t (0, 0) hb', Array.getElem?_eq_getElem (by omega)]
        rfl
      exact run_storeAt_mid w b o T m.toArray hth hsz (all_oneCell_toArray h1)
  · rfl

/-! ### Behind a call: what lay below lies as it lay -/
/-- A block of a world of which no rule says more. -/
def _root_.Go.World.atS (w : World) (b : Nat) : Option Obj := w.at_ b
theorem below_rule {B : Nat} {w w' : World} (h : Below B w w') (n : Nat) : w'.at_ n = if n < B then w.at_ n else w'.atS n := by
  split
  · rename_i hn; exact h.block n hn
  · rfl
theorem below_call {w W w' : World} (h : Below w.heap.size w W) (h' : Below W.heap.size W w') : Below w.heap.size w w' := h.trans (h'.mono h.size)
theorem below_alloc {w W : World} (h : Below w.heap.size w W) (o : Obj) : Below w.heap.size w (W.alloc o) := h.alloc h.size o
theorem below_setCell {w W : World} (h : Below w.heap.size w W) (a : Addr) (v : Value) (ha : w.heap.size ≤ a.block) : Below w.heap.size w (W.setCell a v) := h.setCell ha v
theorem below_put {w W : World} (h : Below w.heap.size w W) (b k : Nat) (m : List Value) (hb : w.heap.size ≤ b) : Below w.heap.size w (W.put_ b k m) :=
  ⟨h.os, h.tape, h.output, by rw [size_put]; exact h.size, fun j hj => by
    have := at_put W b k j m
    rw [if_neg (by omega)] at this
    exact this.trans (h.block j hj)⟩
theorem below_drew {w W : World} (h : Below w.heap.size w W) : Below w.heap.size w W.drew := h.drew
theorem below_drewN {w W : World} (h : Below w.heap.size w W) (n : Nat) : Below w.heap.size w (W.drewN n) := ⟨h.os, h.tape, h.output, h.size, h.block⟩
/-- A call that hands back v, and turns nothing that lay. -/
def Res (v : Value) (w : World) (e : Ending) (w' : World) : Prop := e = .returned v ∧ Below w.heap.size w w'
/-- The same of two results. -/
def Res2 (u v : Value) (w : World) (e : Ending) (w' : World) : Prop := e = .returned (.tuple #[u, v]) ∧ Below w.heap.size w w'

/-! ### A region that draws its order, whose calls may lay blocks -/
/-- The worlds in which all that lies in W lies as it lies. -/
def Ext (W : World) : Type := { w : World // Below W.heap.size W w }
instance (W : World) : Nonempty (Ext W) := ⟨⟨W, Below.refl _ W⟩⟩
def Ext.w {W : World} (x : Ext W) : World := x.1
theorem Ext.below {W : World} (x : Ext W) : Below W.heap.size W x.w := x.2
theorem ext_below {W w' : World} (h : ∃ x : Ext W, w' = x.w) : Below W.heap.size W w' := by obtain ⟨x, rfl⟩ := h; exact x.below
@[go_sem] theorem ext_at {W : World} (x : Ext W) (n : Nat) : x.w.at_ n = if n < W.heap.size then W.at_ n else x.w.atS n := below_rule x.2 n
theorem wp_region_ext {P : Program} {id : Nat} {Q : Exit → Act → World → Prop} {a : Act} {w : World} {l : List Oper} (hm : P.follows .mixedOrders = true) (hB : Region.lexB .any l.toArray = true)
    (h : wpQuiet P l.toArray (fun w' => ∃ x : Ext w, w' = x.w) (fun a' => ∀ w', (∃ x : Ext w, w' = x.w) → Q .normal a' w') l a) : (Code.region id l.toArray true).wp P Q a w :=
  wp_region_quiet (C := fun w' => ∃ x : Ext w, w' = x.w) hm hB ⟨⟨{ w with drawn := w.drawn + 1 }, (Below.refl _ w).drew⟩, rfl⟩ (by simpa using h)
theorem ext_res {W : World} {x : Ext W} {P : Program} {f : FuncId} {args : Array Value} {v : Value} (h : Calls P f args x.w (Res v x.w)) : Calls P f args x.w (fun e w'' => e = .returned v ∧ ∃ y : Ext W, w'' = y.w) :=
  h.mono fun _ w' ⟨he, hb⟩ => ⟨he, ⟨⟨w', below_call x.2 hb⟩, rfl⟩⟩
theorem ext_same {W : World} {x : Ext W} {P : Program} {f : FuncId} {args : Array Value} {v : Value} (h : Calls P f args x.w (fun e w' => e = .returned v ∧ x.w = w')) : Calls P f args x.w (fun e w'' => e = .returned v ∧ ∃ y : Ext W, w'' = y.w) :=
  h.mono fun _ w' ⟨he, hb⟩ => ⟨he, ⟨x, hb.symm⟩⟩
end Go.Proofs.Ytgnebofjfmbccaa
