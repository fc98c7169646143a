/-
  What a head's bytes are read as.
-/
import Derived.Test.YtgnebofjfmbccaaHe
set_option linter.all false
namespace Go.Proofs.Ytgnebofjfmbccaa
open Go.RowKit
theorem fldsFrom_fdata (ds : List (List UInt8)) : ∀ k, (fldsFrom k ds).map fdata = ds := by
  induction ds with
  | nil => intro k; rfl
  | cons d r ih => intro k; simp only [fldsFrom, List.map_cons, ih]; rfl
theorem fldsFrom_tagsOk (ds : List (List UInt8)) : ∀ k, tagsOk k (fldsFrom k ds) = true := by
  induction ds with
  | nil => intro k; rfl
  | cons d r ih => intro k; simp only [fldsFrom, tagsOk, ih]; simp
theorem row_back (ds : List (List UInt8)) (hk : ds.length ≤ 255) (hd : ∀ d ∈ ds, d.length ≤ 65536) : rowOfB (rowFrom 0 ds) = ds ∧ okOf (rowFrom 0 ds) = true := by
  have := readF_row ds hk hd
  unfold rowOfB okOf
  rw [this]
  exact ⟨fldsFrom_fdata ds 0, by rw [fldsFrom_tagsOk]; rfl⟩
theorem nxtNum_num {n : Int} (h : numOk n = true) (r : List (List UInt8)) : nxtNum (numB n :: r) true = (n, r, true) := by
  have hv := valF_num n h
  simp only [numOk, Bool.and_eq_true, decide_eq_true_eq] at h
  unfold nxtNum
  simp only [nxt, hv]
  simp; omega
theorem nxtDig_dig (d : Dig) (r : List (List UInt8)) : nxtDig (d.l :: r) true = (d, r, true) := by
  unfold nxtDig
  simp only [nxt, overDig_all, d.len]
  simp
theorem getHead_bytes (h : Head) (hok : h.ok = true) : getHead (headBytes h) = h ∧ getHeadErr (headBytes h) = 0 := by
  obtain ⟨h1, h2⟩ := row_back (headParts h) (by simp [headParts]) (headParts_len h)
  have hok' := hok
  simp only [Head.ok, Bool.and_eq_true] at hok'
  obtain ⟨⟨⟨g1, g2⟩, g3⟩, g4⟩ := hok'
  have e1 : hr1 (headBytes h) = (h.region, [numB h.epoch, numB h.size, h.root.l, numB h.tick], true) := by
    unfold hr1 headBytes
    rw [h1, h2]
    exact nxtNum_num (numOk_of g1 (by omega) (by omega)) _
  have e2 : hr2 (headBytes h) = (h.epoch, [numB h.size, h.root.l, numB h.tick], true) := by
    unfold hr2; rw [e1]; exact nxtNum_num (numOk_of g2 (by omega) (by omega)) _
  have e3 : hr3 (headBytes h) = (h.size, [h.root.l, numB h.tick], true) := by
    unfold hr3; rw [e2]; exact nxtNum_num (numOk_of g3 (by omega) (by omega)) _
  have e4 : hr4 (headBytes h) = (h.root, [numB h.tick], true) := by
    unfold hr4; rw [e3]; exact nxtDig_dig _ _
  have e5 : hr5 (headBytes h) = (h.tick, [], true) := by
    unfold hr5; rw [e4]; exact nxtNum_num (numOk_of g4 (by omega) (by omega)) _
  have e6 : headOf (headBytes h) = h := by unfold headOf; rw [e1, e2, e3, e4, e5]
  have e7 : headGot (headBytes h) = true := by unfold headGot; rw [e5, e6, hok]; rfl
  exact ⟨by unfold getHead; rw [if_pos e7, e6], by unfold getHeadErr; rw [if_pos e7]⟩
theorem nxtNum_false (ds : List (List UInt8)) : (nxtNum ds false).2.2 = false := by
  cases ds <;> rfl
theorem nxtDig_false (ds : List (List UInt8)) : (nxtDig ds false).2.2 = false := by
  cases ds <;> rfl
theorem getHead_no (l : List UInt8) (h : okOf l = false) : getHead l = Head.zero ∧ getHeadErr l = 70 := by
  have e1 : (hr1 l).2.2 = false := by unfold hr1; rw [h]; exact nxtNum_false _
  have e2 : (hr2 l).2.2 = false := by unfold hr2; rw [e1]; exact nxtNum_false _
  have e3 : (hr3 l).2.2 = false := by unfold hr3; rw [e2]; exact nxtNum_false _
  have e4 : (hr4 l).2.2 = false := by unfold hr4; rw [e3]; exact nxtDig_false _
  have e5 : (hr5 l).2.2 = false := by unfold hr5; rw [e4]; exact nxtNum_false _
  have e7 : headGot l = false := by unfold headGot; rw [e5]; rfl
  exact ⟨by unfold getHead; rw [e7]; rfl, by unfold getHeadErr; rw [e7]; rfl⟩
theorem numB_zero : numB 0 = [] := by
  show (if numOk 0 then numL 0 else []) = []
  rw [numL_zero]; rfl
theorem numB_one : numB 1 = [1] := by
  show (if numOk 1 then numL 1 else []) = [1]
  rw [numL_pos (by omega), show (1 : Nat) / 256 = 0 by omega, numL_zero]; rfl
def law_h : Head := { region := 1, epoch := 1, size := Head.zero.size, root := Head.zero.root, tick := Head.zero.tick }
theorem law_h_ok : law_h.ok = true := by decide
def law_hb : List UInt8 := [1, 0, 0, 1, 1, 2, 0, 0, 1, 1, 3, 0, 0, 0, 4, 0, 0, 32, 0, 0, 0, 0, 0, 0, 0, 0, 0, 0, 0, 0, 0, 0, 0, 0, 0, 0, 0, 0, 0, 0, 0, 0, 0, 0, 0, 0, 0, 0, 0, 0, 5, 0, 0, 0]
theorem law_h_bytes : headBytes law_h = law_hb := by
  show rowFrom 0 [numB 1, numB 1, numB 0, Dig.zero.l, numB 0] = law_hb
  rw [numB_one, numB_zero]
  decide
theorem law_hb_short : getHeadErr (law_hb.take 53) = 70 := by
  refine (getHead_no _ ?_).2
  have e : law_hb.take 53 = fieldB ((0 : Nat) + 1) [1] ++ (fieldB ((1 : Nat) + 1) [1] ++ (fieldB ((2 : Nat) + 1) [] ++ (fieldB ((3 : Nat) + 1) Dig.zero.l ++ [5, 0, 0]))) := by decide
  have hy : yields (law_hb.take 53) = [(⟨((0 : Nat) : Int) + 1, strOf [1]⟩, 0), (⟨((1 : Nat) : Int) + 1, strOf [1]⟩, 0), (⟨((2 : Nat) : Int) + 1, strOf []⟩, 0), (⟨((3 : Nat) : Int) + 1, strOf Dig.zero.l⟩, 0), (Fld.zero, 10)] := by
    rw [e, yields_field 0 _ _ (by omega) (by decide), yields_field 1 _ _ (by omega) (by decide), yields_field 2 _ _ (by omega) (by decide), yields_field 3 _ _ (by omega) (by decide), yields_bad (by decide) (by decide)]
    rfl
  unfold okOf readF
  rw [hy]
  rfl
end Go.Proofs.Ytgnebofjfmbccaa
