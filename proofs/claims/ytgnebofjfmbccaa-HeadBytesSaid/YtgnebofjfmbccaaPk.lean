/-
  What bytes are read as: fields one by one, rows of fields, numbers.
-/
import Derived.Test.YtgnebofjfmbccaaPj
set_option linter.all false
namespace Go.Proofs.Ytgnebofjfmbccaa
open Go.RowKit
def lenOf (a b c : UInt8) : Nat := a.toNat * 65536 + b.toNat * 256 + c.toNat
/-- The field that bytes begin with, how many bytes it has, and the error. -/
def getF : List UInt8 → Fld × Nat × Int
  | t :: a :: b :: c :: r => if t = 0 ∨ 65536 < lenOf a b c then (Fld.zero, 0, 11) else if r.length < lenOf a b c then (Fld.zero, 0, 10) else (⟨t.toNat, strOf (r.take (lenOf a b c))⟩, 4 + lenOf a b c, 0)
  | _ => (Fld.zero, 0, 10)
theorem getF_short {l : List UInt8} (h : l.length < 4) : getF l = (Fld.zero, 0, 10) := by
  match l, h with
  | [], _ => rfl
  | [_], _ => rfl
  | [_, _], _ => rfl
  | [_, _, _], _ => rfl
  | _ :: _ :: _ :: _ :: _, h => simp at h; omega
theorem getF_ok {l : List UInt8} (h : (getF l).2.2 = 0) : 4 ≤ (getF l).2.1 ∧ (getF l).2.1 ≤ l.length := by
  match l, h with
  | [], h => simp [getF] at h
  | [_], h => simp [getF] at h
  | [_, _], h => simp [getF] at h
  | [_, _, _], h => simp [getF] at h
  | t :: a :: b :: c :: r, h =>
    by_cases h1 : t = 0 ∨ 65536 < lenOf a b c
    · rw [getF, if_pos h1] at h; simp at h
    · by_cases h2 : r.length < lenOf a b c
      · rw [getF, if_neg h1, if_pos h2] at h; simp at h
      · rw [getF, if_neg h1, if_neg h2]; simp; omega
/-- The fields that bytes are gone through as, each with its error, till one is none. -/
def yields (l : List UInt8) : List (Fld × Int) :=
  if h : l = [] then [] else if h2 : (getF l).2.2 = 0 then ((getF l).1, 0) :: yields (l.drop (getF l).2.1) else [((getF l).1, (getF l).2.2)]
termination_by l.length
decreasing_by
  have := getF_ok h2
  have h0 : 0 < l.length := by cases l with | nil => exact absurd rfl h | cons _ _ => simp
  simp; omega
theorem yields_nil : yields [] = [] := by rw [yields]; simp
theorem yields_ok {l : List UInt8} (h : l ≠ []) (h2 : (getF l).2.2 = 0) : yields l = ((getF l).1, 0) :: yields (l.drop (getF l).2.1) := by
  rw [yields, dif_neg h, dif_pos h2]
theorem yields_bad {l : List UInt8} (h : l ≠ []) (h2 : ¬ (getF l).2.2 = 0) : yields l = [((getF l).1, (getF l).2.2)] := by
  rw [yields, dif_neg h, dif_neg h2]
/-- A row of fields, read: behind acc, the last tag being 'last'. -/
def rdA : List Fld → Int → List (Fld × Int) → List Fld × Int
  | acc, _, [] => (acc, 0)
  | acc, last, x :: r => if x.2 = 0 then if x.1.tag ≤ last then ([], 11) else rdA (acc ++ [x.1]) x.1.tag r else ([], x.2)
def readF (l : List UInt8) : List Fld × Int := rdA [] 0 (yields l)
def bytesOf (d : ByteArray) : List UInt8 := d.data.toList
theorem strOf_bytesOf (d : ByteArray) : strOf (bytesOf d) = d := rfl
theorem bytesOf_strOf (l : List UInt8) : bytesOf (strOf l) = l := rfl
theorem bytesOf_length (d : ByteArray) : (bytesOf d).length = d.size := Array.length_toList
/-- A row of fields, laid. -/
def layA : List UInt8 → Int → List Fld → List UInt8 × Int
  | acc, _, [] => (acc, 0)
  | acc, last, f :: r => if mayF f last = 0 then layA (acc ++ fieldB f.tag (bytesOf f.data)) f.tag r else ([], mayF f last)
/-- Fields of the tags from k + 1 on. -/
def fldsFrom : Nat → List (List UInt8) → List Fld
  | _, [] => []
  | k, d :: r => ⟨(k : Int) + 1, strOf d⟩ :: fldsFrom (k + 1) r
theorem layA_row (ds : List (List UInt8)) : ∀ (k : Nat) (acc : List UInt8), k + ds.length ≤ 255 → (∀ d ∈ ds, d.length ≤ 65536) → layA acc k (fldsFrom k ds) = (acc ++ rowFrom k ds, 0) := by
  induction ds with
  | nil => intro k acc _ _; simp [fldsFrom, layA, rowFrom]
  | cons d r ih =>
    intro k acc hk hd
    simp only [List.length_cons] at hk
    have hm : mayF ⟨(k : Int) + 1, strOf d⟩ k = 0 := by
      have := hd d (by simp)
      unfold mayF
      rw [if_neg, if_neg]
      · simp [strOf_size]; omega
      · simp; omega
    rw [fldsFrom, layA, if_pos hm]
    have := ih (k + 1) (acc ++ fieldB ((k : Int) + 1) d) (by omega) (fun x hx => hd x (by simp [hx]))
    simp only [bytesOf_strOf, rowFrom]
    rw [← List.append_assoc]
    exact this
theorem u8_nat {n : Nat} (h : n < 256) : (u8 (n : Int)).toNat = n := by
  simp only [u8, UInt8.toNat_ofNat', Nat.reducePow]
  omega
theorem u8_toNat (n : Int) : ((u8 n).toNat : Int) = n % 256 := by
  simp only [u8, UInt8.toNat_ofNat', Nat.reducePow]
  omega
theorem getF_field (k : Nat) (d rest : List UInt8) (hk : k < 255) (hd : d.length ≤ 65536) : getF (fieldB ((k : Int) + 1) d ++ rest) = (⟨(k : Int) + 1, strOf d⟩, 4 + d.length, 0) := by
  have h1 := u8_toNat (d.length / 65536 : Nat)
  have h2 := u8_toNat (d.length / 256 : Nat)
  have h3 := u8_toNat (d.length : Nat)
  have h4 := u8_toNat ((k : Int) + 1)
  have hn : lenOf (u8 (d.length / 65536 : Nat)) (u8 (d.length / 256 : Nat)) (u8 (d.length : Nat)) = d.length := by unfold lenOf; omega
  have ht : ¬ u8 ((k : Int) + 1) = 0 := by
    intro e
    rw [e] at h4
    simp at h4; omega
  have e : fieldB ((k : Int) + 1) d ++ rest = u8 ((k : Int) + 1) :: u8 (d.length / 65536 : Nat) :: u8 (d.length / 256 : Nat) :: u8 (d.length : Nat) :: (d ++ rest) := by
    simp [fieldB, headB]
  rw [e, getF, hn, if_neg (by intro h; rcases h with h | h; · exact ht h
                              · omega), if_neg (by simp), List.take_left' rfl]
  simp only [Prod.mk.injEq, Fld.mk.injEq, and_true]
  omega
theorem yields_field (k : Nat) (d rest : List UInt8) (hk : k < 255) (hd : d.length ≤ 65536) : yields (fieldB ((k : Int) + 1) d ++ rest) = (⟨(k : Int) + 1, strOf d⟩, 0) :: yields rest := by
  have hg := getF_field k d rest hk hd
  rw [yields_ok (by simp [fieldB, headB]) (by rw [hg]), hg]
  congr 1
  congr 1
  simp only
  rw [List.drop_left' (by simp [fieldB, headB]; omega)]
theorem yields_row (ds : List (List UInt8)) : ∀ k, k + ds.length ≤ 255 → (∀ d ∈ ds, d.length ≤ 65536) → yields (rowFrom k ds) = (fldsFrom k ds).map (fun f => (f, 0)) := by
  induction ds with
  | nil => intro k _ _; exact yields_nil
  | cons d r ih =>
    intro k hk hd
    simp only [List.length_cons] at hk
    rw [rowFrom, yields_field k d _ (by omega) (hd d (by simp)), ih (k + 1) (by omega) (fun x hx => hd x (by simp [hx]))]
    rfl
theorem rdA_row (ds : List (List UInt8)) : ∀ (k : Nat) (acc : List Fld), rdA acc k ((fldsFrom k ds).map (fun f => (f, 0))) = (acc ++ fldsFrom k ds, 0) := by
  induction ds with
  | nil => intro k acc; simp [fldsFrom, rdA]
  | cons d r ih =>
    intro k acc
    simp only [fldsFrom, List.map_cons, rdA, if_true]
    rw [if_neg (by omega)]
    have := ih (k + 1) (acc ++ [⟨(k : Int) + 1, strOf d⟩])
    rw [show (((k + 1 : Nat)) : Int) = (k : Int) + 1 by omega] at this
    rw [this, List.append_assoc]; rfl
theorem readF_row (ds : List (List UInt8)) (hk : ds.length ≤ 255) (hd : ∀ d ∈ ds, d.length ≤ 65536) : readF (rowFrom 0 ds) = (fldsFrom 0 ds, 0) := by
  unfold readF
  rw [yields_row ds 0 (by omega) hd]
  exact rdA_row ds 0 []
/-- The number that bytes are, from n on. -/
def valA : Nat → List UInt8 → Nat × Int
  | n, [] => (n, 0)
  | n, x :: r => if 18014398509481983 < n then (0, 11) else valA (n * 256 + x.toNat) r
def valF (l : List UInt8) : Nat × Int := if 8 < l.length ∨ l.head? = some 0 then (0, 11) else valA 0 l
theorem valA_append (l m : List UInt8) : ∀ n, valA n (l ++ m) = if (valA n l).2 = 0 then valA (valA n l).1 m else valA n l := by
  induction l with
  | nil => intro n; simp [valA]
  | cons x r ih =>
    intro n
    simp only [List.cons_append, valA]
    split
    · simp
    · exact ih _
theorem valA_num (m : Nat) : m ≤ 4611686018427387903 → valA 0 (numL m) = (m, 0) := by
  induction m using Nat.strongRecOn with
  | _ m ih =>
    intro hm
    by_cases h0 : m = 0
    · subst h0; rw [numL_zero]; rfl
    · rw [numL_pos (by omega), valA_append, ih (m / 256) (by omega) (by omega)]
      simp only [if_true, valA]
      rw [if_neg (by omega)]
      congr 1
      simp only [UInt8.toNat_ofNat', Nat.reducePow]
      omega
theorem numL_head (m : Nat) : (numL m).head? ≠ some 0 := by
  induction m using Nat.strongRecOn with
  | _ m ih =>
    by_cases h0 : m = 0
    · subst h0; rw [numL_zero]; simp
    · rw [numL_pos (by omega)]
      by_cases h1 : m / 256 = 0
      · rw [h1, numL_zero]
        simp only [List.nil_append, List.head?_cons, ne_eq, Option.some.injEq]
        intro e
        have := congrArg UInt8.toNat e
        simp only [UInt8.toNat_ofNat', Nat.reducePow, UInt8.toNat_zero] at this
        omega
      · have h2 := ih (m / 256) (by omega)
        rw [List.head?_append]
        intro e
        cases hq : (numL (m / 256)).head? with
        | none =>
          rw [List.head?_eq_none_iff] at hq
          rw [numL_pos (by omega)] at hq
          simp at hq
        | some x => rw [hq] at e h2; simp at e; exact h2 (by rw [e])
theorem valF_num (n : Int) (h : numOk n = true) : valF (numB n) = (n.toNat, 0) := by
  simp only [numOk, Bool.and_eq_true, decide_eq_true_eq] at h
  have e : numB n = numL n.toNat := by simp [numB, numOk, h.1, h.2]
  rw [e]
  unfold valF
  rw [if_neg, valA_num _ (by omega)]
  intro hh
  rcases hh with hh | hh
  · have := numL_len8 h.1 h.2; omega
  · exact numL_head _ hh
/-- Each number that bytes are is below the greatest. -/
theorem valA_le (l : List UInt8) : ∀ n, n ≤ 4611686018427387903 → (valA n l).1 ≤ 4611686018427387903 := by
  induction l with
  | nil => intro n h; exact h
  | cons x r ih =>
    intro n h
    simp only [valA]
    split
    · simp
    · have := x.toNat_lt
      exact ih _ (by omega)
end Go.Proofs.Ytgnebofjfmbccaa
