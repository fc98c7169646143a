/-
  The reference's bytes of a claim.
-/
import Derived.Test.YtgnebofjfmbccaaPd
import Derived.Test.YtgnebofjfmbccaaC
import Derived.Test.YtgnebofjfmbccaaQ
import Derived.Deep.RegionHeld3
import Derived.Sort.AtCall
set_option linter.all false
namespace Go.Proofs.Ytgnebofjfmbccaa
open Go.RowKit
structure Since_ (W w' : World) : Prop where
  out : Below W.heap.size W w'
def claimParts (c : Claim) : List (List UInt8) := [numB c.region, numB c.epoch, numB c.node, numB c.size, c.root.l]
def claimB (c : Claim) : List UInt8 := rowFrom 0 (claimParts c)
theorem numB_len (n : Int) : (numB n).length ≤ 8 := by
  unfold numB
  split
  · rename_i h
    simp only [numOk, Bool.and_eq_true, decide_eq_true_eq] at h
    exact numL_len8 h.1 h.2
  · simp
theorem claimB_len (c : Claim) : (claimB c).length ≤ 1000 := by
  have h1 := numB_len c.region
  have h2 := numB_len c.epoch
  have h3 := numB_len c.node
  have h4 := numB_len c.size
  have h5 := c.root.len
  simp [claimB, claimParts, rowFrom, fieldB, headB]
  omega
theorem row_claim (c : Claim) (b : Nat) (w : World) (h : w.at_ b = some (.cells #[.string (strOf (numB c.region)), .string (strOf (numB c.epoch)), .string (strOf (numB c.node)), .string (strOf (numB c.size)), .string (strOf c.root.l)] 9)) :
    Calls Try.prog 93 #[.slice (some ⟨b, 0, none⟩) 5 5] w (ResB (claimB c) w) := by
  refine ref07_Row (claimParts c) (some ⟨b, 0, none⟩) 5 w (sliceAt_rows (xs := claimParts c) encS_length (t := 9) (fr := (0, 0)) h) (by simp [claimParts]) ?_ (by have := claimB_len c; unfold claimB at this; omega)
  intro d hd
  have h1 := numB_len c.region
  have h2 := numB_len c.epoch
  have h3 := numB_len c.node
  have h4 := numB_len c.size
  have h5 := c.root.len
  simp only [claimParts, List.mem_cons, List.not_mem_nil, or_false] at hd
  rcases hd with rfl | rfl | rfl | rfl | rfl <;> omega
theorem claim_root {c : Claim} {W : World} {b : Nat} {t : TypeId} (h : W.at_ b = some (.cells (encClaim c).toArray t)) : W.rangeAt b 4 (encDig c.root) := by
  refine rangeAt_of_row (n := 32) ?_
  rw [h, rowOf_cells, if_pos (by rw [ln_encClaim]; omega), encClaim_root]
set_option maxRecDepth 20000 in
set_option maxHeartbeats 2000000 in
theorem ref08_ClaimBytes (c : Claim) (w : World) : Calls Try.prog 55 #[.agg (encClaim c).toArray] w (ResB (claimB c) w) := by
  go_enter Try.func55, Try.ntmps55
  go_wp2_with fail
  generalize hW : World.alloc w _ = W
  have hbW : Below w.heap.size w W := by rw [← hW]; (repeat' (first | exact Below.refl _ _ | assumption | refine below_drew ?_ | refine below_drewN ?_ _ | refine below_alloc ?_ _ | refine below_call ?_ (by assumption) | refine below_put ?_ _ _ _ (by first | omega | (simp; omega)) | refine below_setCell ?_ _ _ (by first | (simp; omega) | (simp; done) | omega) | refine below_putObj ?_ _ _ (by first | omega | (simp; omega) | (simp; done))))
  have rT : W.at_ w.heap.size = some (.cells (encClaim c).toArray 31) := by rw [← hW]; exact at_alloc_new rfl
  clear hW
  have hu := Try.underlying25
  have hi : (Try.prog.info? 25).map (·.size) = some (encDig c.root).length := by rw [encDig_length]; kernel_rfl
  go_region_held3 (fun w' => Since_ W w' ∧ w'.at_ w.heap.size = some (.cells (encClaim c).toArray 31) ∧ w'.rangeAt w.heap.size 4 (encDig c.root))
    ((go_split_ands; refine ⟨by (refine Since_.mk ?_; (repeat' (first | exact Below.refl _ _ | exact Since_.out (by assumption) | refine below_drew ?_ | refine below_alloc ?_ _ | refine below_call ?_ (by assumption)))), by (repeat' (first | assumption | exact at_alloc_new (by simp; done) | refine at_alloc_old ?_ _ | refine setCell_other (by omega) ?_ | rw [at_drew] | refine at_below (by assumption) ?_)), claim_root (t := 31) (by (repeat' (first | assumption | exact at_alloc_new (by simp; done) | refine at_alloc_old ?_ _ | refine setCell_other (by omega) ?_ | rw [at_drew] | refine at_below (by assumption) ?_)))⟩))
    ((go_split_ands; first | (go_at_call 94; refine (ref07_Number _ _).mono ?_; rintro e w1 ⟨rfl, hb⟩; have ha := below_rule hb; have hs := hb.size; (try simp only [World.size_alloc, World.size_setCell, size_put, World.size_drew] at hs)) | (go_at_call 95; refine (ref02_Text _ _).mono ?_; rintro e w1 ⟨rfl, hb⟩; have ha := below_rule hb; have hs := hb.size; (try simp only [World.size_alloc, World.size_setCell, size_put, World.size_drew] at hs)) | (go_at_call 93; refine (row_claim c _ _ ?_).mono ?_; (· (repeat' (first | assumption | exact at_alloc_new (by simp; done) | refine at_alloc_old ?_ _ | refine setCell_other (by omega) ?_ | rw [at_drew] | refine at_below (by assumption) ?_))); rintro e w1 ⟨v1, rfl, hown, hb⟩; have ha := below_rule hb; have hs := hb.size; (try simp only [World.size_alloc, World.size_setCell, size_put, World.size_drew] at hs))))
  all_goals
    go_wp2
    go_ret
    go_split_ands
    have hsW := hbW.size
    exact ⟨_, rfl, (OwnSl.base (OwnB.sl hown) (by (try simp only [World.size_alloc, World.size_drew] at *); omega)).b, below_call hbW (Since_.out (by assumption))⟩
end Go.Proofs.Ytgnebofjfmbccaa
