/-
  What a claim's bytes are read as.
-/
import Derived.Test.YtgnebofjfmbccaaPk
set_option linter.all false
namespace Go.Proofs.Ytgnebofjfmbccaa
open Go.RowKit
def numF (d : ByteArray) : Int := (valF (bytesOf d)).1
def overDig (r : Dig) (d : List UInt8) : Dig := ⟨d.take 32 ++ r.l.drop d.length, by have := r.len; simp; omega⟩
def takeC (c : Claim) (f : Fld) : Claim :=
  if f.tag = 1 then { c with region := numF f.data } else if f.tag = 2 then { c with epoch := numF f.data } else if f.tag = 3 then { c with node := numF f.data }
  else if f.tag = 4 then { c with size := numF f.data } else if f.tag = 5 then { c with root := overDig c.root (bytesOf f.data) } else c
def claimOf (b : List UInt8) : Claim := (readF b).1.foldl takeC Claim.zero
def claimGot (b : List UInt8) : Bool := decide ((readF b).2 = 0) && (claimOf b).ok && decide (claimB (claimOf b) = b)
def getClaim (b : List UInt8) : Claim := if claimGot b then claimOf b else Claim.zero
def getClaimErr (b : List UInt8) : Int := if claimGot b then 0 else 60
theorem overDig_all (r d : Dig) : overDig r d.l = d := by
  have h1 := r.len
  have h2 := d.len
  cases d
  simp only [overDig, Dig.mk.injEq]
  simp only at h2
  rw [List.take_of_length_le (by omega), List.drop_of_length_le (by omega), List.append_nil]
theorem numOk_of {n lo hi : Int} (h : inR n lo hi = true) (h1 : 0 ≤ lo) (h2 : hi ≤ 4611686018427387903) : numOk n = true := by
  simp only [inR, Bool.and_eq_true, decide_eq_true_eq] at h
  simp only [numOk, Bool.and_eq_true, decide_eq_true_eq]
  omega
theorem numF_num {n : Int} (h : numOk n = true) : numF (strOf (numB n)) = n := by
  unfold numF
  rw [bytesOf_strOf, valF_num n h]
  simp only [numOk, Bool.and_eq_true, decide_eq_true_eq] at h
  simp; omega
theorem claimParts_len (c : Claim) : ∀ d ∈ claimParts c, d.length ≤ 65536 := by
  intro d hd
  have h1 := numB_len c.region
  have h2 := numB_len c.epoch
  have h3 := numB_len c.node
  have h4 := numB_len c.size
  have h5 := c.root.len
  simp only [claimParts, List.mem_cons, List.not_mem_nil, or_false] at hd
  rcases hd with rfl | rfl | rfl | rfl | rfl <;> omega
theorem claimOf_bytes (c : Claim) (h : c.ok = true) : claimOf (claimB c) = c ∧ (readF (claimB c)).2 = 0 := by
  have hr := readF_row (claimParts c) (by simp [claimParts]) (claimParts_len c)
  unfold claimOf claimB
  rw [hr]
  refine ⟨?_, rfl⟩
  simp only [Claim.ok, Bool.and_eq_true] at h
  obtain ⟨⟨⟨h1, h2⟩, h3⟩, h4⟩ := h
  have n1 := numF_num (numOk_of h1 (by omega) (by omega))
  have n2 := numF_num (numOk_of h2 (by omega) (by omega))
  have n3 := numF_num (numOk_of h3 (by omega) (by omega))
  have n4 := numF_num (numOk_of h4 (by omega) (by omega))
  simp [claimParts, fldsFrom, takeC, n1, n2, n3, n4, bytesOf_strOf, overDig_all]
theorem getClaim_bytes (c : Claim) (h : c.ok = true) : claimGot (claimB c) = true ∧ getClaim (claimB c) = c ∧ getClaimErr (claimB c) = 0 := by
  obtain ⟨h1, h2⟩ := claimOf_bytes c h
  have hg : claimGot (claimB c) = true := by simp [claimGot, h1, h2, h]
  refine ⟨hg, ?_, ?_⟩
  · unfold getClaim; rw [if_pos hg, h1]
  · unfold getClaimErr; rw [if_pos hg]
end Go.Proofs.Ytgnebofjfmbccaa
