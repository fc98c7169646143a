/-
  The reference's PutClaim.
-/
import Derived.Test.YtgnebofjfmbccaaPe
set_option linter.all false
namespace Go.Proofs.Ytgnebofjfmbccaa
open Go.RowKit
/-- Bytes of the call's own and an error are handed back. -/
def ResBE (l : List UInt8) (n : Int) (w : World) (e : Ending) (w' : World) : Prop := ∃ v, e = .returned (.tuple #[v, .int .i64 n]) ∧ OwnB w' w.heap.size v l ∧ Below w.heap.size w w'
theorem ownB_nil (w : World) (B : Nat) : OwnB w B (.slice none 0 0) [] := (OwnSl.nil _ _ _ _ _ : OwnSl encB 1 5 w B _ []).b
def claimOut (c : Claim) : List UInt8 := if c.ok then claimB c else []
def claimErr (c : Claim) : Int := if c.ok then 0 else 60
set_option maxRecDepth 20000 in
set_option maxHeartbeats 1000000 in
theorem ref08_PutClaim (c : Claim) (w : World) : Calls Try.prog 23 #[.agg (encClaim c).toArray] w (ResBE (claimOut c) (claimErr c) w) := by
  cases hok : c.ok
  · rw [show claimOut c = [] by simp [claimOut, hok], show claimErr c = 60 by simp [claimErr, hok]]
    go_enter Try.func23, Try.ntmps23
    go_wp2_with ((go_at_call 54; refine (ref08_RightClaim _ _).mono ?_; rintro e w1 ⟨rfl, hb⟩; have ha := below_rule hb; have hs := hb.size; (try simp only [World.size_alloc, World.size_setCell, size_put, World.size_drew] at hs)))
    go_ret2
    exact ⟨_, rfl, ownB_nil _ _, by (repeat' (first | exact Below.refl _ _ | assumption | refine below_drew ?_ | refine below_drewN ?_ _ | refine below_alloc ?_ _ | refine below_call ?_ (by assumption) | refine below_put ?_ _ _ _ (by first | omega | (simp; omega)) | refine below_setCell ?_ _ _ (by first | (simp; omega) | (simp; done) | omega) | refine below_putObj ?_ _ _ (by first | omega | (simp; omega) | (simp; done))))⟩
  · rw [show claimOut c = claimB c by simp [claimOut, hok], show claimErr c = 0 by simp [claimErr, hok]]
    go_enter Try.func23, Try.ntmps23
    go_wp2_with (first | (go_at_call 54; refine (ref08_RightClaim _ _).mono ?_; rintro e w1 ⟨rfl, hb⟩; have ha := below_rule hb; have hs := hb.size; (try simp only [World.size_alloc, World.size_setCell, size_put, World.size_drew] at hs)) | (go_at_call 55; refine (ref08_ClaimBytes _ _).mono ?_; rintro e w1 ⟨v1, rfl, hown, hb⟩; have ha := below_rule hb; have hs := hb.size; (try simp only [World.size_alloc, World.size_setCell, size_put, World.size_drew] at hs)))
    go_ret2
    exact ⟨_, rfl, (OwnSl.base (OwnB.sl hown) (by omega)).b, by (repeat' (first | exact Below.refl _ _ | assumption | refine below_drew ?_ | refine below_drewN ?_ _ | refine below_alloc ?_ _ | refine below_call ?_ (by assumption) | refine below_put ?_ _ _ _ (by first | omega | (simp; omega)) | refine below_setCell ?_ _ _ (by first | (simp; omega) | (simp; done) | omega) | refine below_putObj ?_ _ _ (by first | omega | (simp; omega) | (simp; done))))⟩
end Go.Proofs.Ytgnebofjfmbccaa
