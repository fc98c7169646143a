/-
  A slice literal of structs: its rows, one behind the other.
-/
import Derived.Test.YtgnebofjfmbccaaV
import Derived.Great.BuildSlice
set_option linter.all false
namespace Go.Proofs.Ytgnebofjfmbccaa
open Go.RowKit
/-- The rows of xs, one behind the other. -/
def rowsOf {α : Type} (enc : α → List Value) (xs : List α) : List Value := xs.flatMap enc
theorem rowsOf_length {α : Type} {enc : α → List Value} {n : Nat} (he : ∀ x, (enc x).length = n) : ∀ xs : List α, (rowsOf enc xs).length = xs.length * n := by
  intro xs
  induction xs with
  | nil => simp [rowsOf]
  | cons x r ih =>
    have : (rowsOf enc (x :: r)).length = (enc x).length + (rowsOf enc r).length := by simp [rowsOf]
    rw [this, ih, he, List.length_cons, Nat.add_mul]; omega
theorem rowsOf_seg {α : Type} {enc : α → List Value} {n : Nat} (he : ∀ x, (enc x).length = n) : ∀ (xs : List α) (i : Nat) (x : α), xs[i]? = some x → seg (rowsOf enc xs) (i * n) n = enc x := by
  intro xs
  induction xs with
  | nil => intro i x h; simp at h
  | cons y r ih =>
    intro i x h
    have hc : rowsOf enc (y :: r) = enc y ++ rowsOf enc r := by simp [rowsOf]
    cases i with
    | zero =>
      simp only [List.getElem?_cons_zero, Option.some.injEq] at h
      subst h
      rw [hc, seg_eq, Nat.zero_mul, List.drop_zero, List.take_append_of_le_length (by rw [he]; exact Nat.le_refl _), List.take_of_length_le (by rw [he]; exact Nat.le_refl _)]
    | succ i =>
      simp only [List.getElem?_cons_succ] at h
      rw [hc, seg_eq, List.drop_append, he, List.drop_of_length_le (by rw [he, Nat.add_mul]; omega), List.nil_append, show (i + 1) * n - n = i * n by rw [Nat.add_mul]; omega, ← seg_eq]
      exact ih i x h
theorem sliceAt_rows {α : Type} {enc : α → List Value} {n : Nat} (he : ∀ x, (enc x).length = n) {W : World} {b : Nat} {t : TypeId} {fr : Nat × Nat} {xs : List α} (h : W.at_ b = some (.cells (rowsOf enc xs).toArray t fr)) : SliceAt enc n W (some ⟨b, 0, none⟩) xs := by
  refine .inr ⟨b, 0, rfl, at_lt h, fun i x hx => ?_⟩
  have hi := (List.getElem?_eq_some_iff.1 hx).1
  rw [h, rowOf_cells, if_pos, Nat.zero_add, rowsOf_seg he xs i x hx]
  rw [ln_eq, rowsOf_length he, Nat.zero_add]
  have : (i + 1) * n ≤ xs.length * n := Nat.mul_le_mul_right _ hi
  rw [Nat.add_mul] at this; omega
theorem fill_rows {α : Type} {enc : α → List Value} {n : Nat} (he : ∀ x, (enc x).length = n) : ∀ (xs : List α) (k : Nat) (z : List Value), (k + xs.length) * n = z.length →
    Instr.fill (fun i => some (i * n, n)) z.toArray ((xs.zipIdx k).map fun p => (p.2, Value.agg (enc p.1).toArray)) = some (z.take (k * n) ++ rowsOf enc xs).toArray := by
  intro xs
  induction xs with
  | nil => intro k z h; simp only [List.length_nil, Nat.add_zero] at h; simp [Instr.fill, rowsOf, h]
  | cons x r ih =>
    intro k z h
    simp only [List.length_cons] at h
    have hle : k * n + n ≤ z.length := by rw [← h, Nat.add_mul, Nat.add_mul]; omega
    rw [List.zipIdx_cons, List.map_cons]
    simp only [Instr.fill]
    have hsz : ((Value.agg (enc x).toArray).cells).size = n := by simp [Value.cells, he]
    rw [if_neg (by rw [hsz]; simp; omega)]
    have hk := foldl_set_splice (enc x) z.toArray (k * n) 0 (by simp [he]; omega)
    simp only [Nat.add_zero] at hk
    have hk2 : (Value.agg (enc x).toArray).cells.zipIdx.foldl (fun cs (p : Value × Nat) => cs.setIfInBounds (k * n + p.2) p.1) z.toArray = (splice z (k * n) (enc x)).toArray := by
      rw [← hk, ← Array.foldl_toList]; simp [Value.cells]
    rw [show (fun (cs : Array Value) (x : Value × Nat) => match x with | (c, j) => cs.setIfInBounds (k * n + j) c) = (fun cs (p : Value × Nat) => cs.setIfInBounds (k * n + p.2) p.1) from rfl, hk2]
    have hl : (splice z (k * n) (enc x)).length = z.length := splice_length z _ _ (by rw [he]; exact hle)
    rw [ih (k + 1) _ (by rw [hl, ← h]; congr 1; omega)]
    congr 2
    have hc : rowsOf enc (x :: r) = enc x ++ rowsOf enc r := by simp [rowsOf]
    rw [hc, ← List.append_assoc]
    congr 1
    have hlen : (z.take (k * n) ++ enc x).length = (k + 1) * n := by
      rw [List.length_append, List.length_take, he, Nat.min_eq_left (by omega), Nat.add_mul, Nat.one_mul]
    unfold splice
    rw [← List.append_assoc, List.take_append_of_le_length (by rw [hlen]; exact Nat.le_refl _), List.take_of_length_le (by rw [hlen]; exact Nat.le_refl _)]
/-- 'buildSlice' of rows, under a name that the walk does not lay open. -/
def buildSl (T : TypeId) (n : Nat) (ps : Array (Nat × Value)) : Sem Value := Instr.buildSlice T n ps
theorem run_buildRows {α : Type} {enc : α → List Value} {P : Program} {T E : TypeId} {n : Nat} (he : ∀ x, (enc x).length = n) (w : World) (xs : List α) (len : Nat) (hlen : len = xs.length) (ps : Array (Nat × Value)) (hps : ps.toList = (xs.zipIdx 0).map fun p => (p.2, Value.agg (enc p.1).toArray))
    (hu : P.underlying T = some (.slice E)) (hi : (P.info? E).map (·.size) = some n) (hz : ((P.info? E).bind (·.zero)).isSome = true) (hsmall : len * n ≤ 2 ^ 24) (hpos : 0 < len * n) :
    (buildSl T len ps).run P w = .ok (.slice (some ⟨w.heap.size, 0, none⟩) len len) (w.alloc (.cells (rowsOf enc xs).toArray E)) := by
  cases hie : P.info? E with
  | none => simp [hie] at hi
  | some ie =>
    simp only [hie, Option.map_some, Option.some.injEq, Option.bind_some] at hi hz
    obtain ⟨z, hzz⟩ := Option.isSome_iff_exists.1 hz
    unfold buildSl
    refine run_buildSlice w T E len ps _ ie z hu hie hzz (by rw [hi]; omega) (by rw [hi]; omega) ?_
    rw [hps, hi]
    have hf := fill_rows he xs 0 ((Array.range (len * n)).map (z.cells[· % z.cells.size]!)).toList (by simp [hlen])
    rw [Array.toArray_toList] at hf
    rw [hf]; simp
theorem sizeOnly_Item : (Try.prog.info? 35).map (·.size) = some 110 := by kernel_rfl
theorem zeroIs_Item : ((Try.prog.info? 35).bind (·.zero)).isSome = true := by kernel_rfl
@[go_sem ↓] theorem buildSlice_Item (n : Nat) (ps : Array (Nat × Value)) : Instr.buildSlice 22 n ps = buildSl 22 n ps := rfl
@[go_sem] theorem run_buildSl1_Item (w : World) (x : Item) : (buildSl 22 1 #[(0, .agg (encItem x).toArray)]).run Try.prog w = .ok (.slice (some ⟨w.heap.size, 0, none⟩) 1 1) (w.alloc (.cells (rowsOf encItem [x]).toArray 35)) :=
  run_buildRows encItem_length w [x] 1 rfl _ rfl Try.underlying22 sizeOnly_Item zeroIs_Item (by omega) (by omega)
@[go_sem] theorem run_buildSl3_Item (w : World) (x y z : Item) : (buildSl 22 3 #[(0, .agg (encItem x).toArray), (1, .agg (encItem y).toArray), (2, .agg (encItem z).toArray)]).run Try.prog w = .ok (.slice (some ⟨w.heap.size, 0, none⟩) 3 3) (w.alloc (.cells (rowsOf encItem [x, y, z]).toArray 35)) :=
  run_buildRows encItem_length w [x, y, z] 3 rfl _ rfl Try.underlying22 sizeOnly_Item zeroIs_Item (by omega) (by omega)
end Go.Proofs.Ytgnebofjfmbccaa
