/-
  estreatlaw08.EntryClaims, walked: it returns true.
-/
import Derived.Test.YtgnebofjfmbccaaPu
set_option linter.all false
namespace Go.Proofs.Ytgnebofjfmbccaa
open Go.RowKit
theorem getClaim_ok {c : Claim} (hok : c.ok = true) (a : Option Addr) (cap : Nat) (w : World) (h : BytesAt w a (claimB c)) (hcap : (claimB c).length ≤ cap) :
    Calls Try.prog 26 #[.slice a (claimB c).length cap] w (Res2 (.agg (encClaim c).toArray) (.int .i64 0) w) := by
  have := entry_GetClaim (claimB c) a cap w h (by have := claimB_len c; omega) hcap
  obtain ⟨_, h1, h2⟩ := getClaim_bytes c hok
  rw [h1, h2] at this
  exact this
theorem putClaim_ok {c : Claim} (hok : c.ok = true) (w : World) : Calls Try.prog 22 #[.agg (encClaim c).toArray] w (ResBE (claimB c) 0 w) := by
  have := entry_PutClaim c w
  rw [show claimOut c = claimB c by simp [claimOut, hok], show claimErr c = 0 by simp [claimErr, hok]] at this
  exact this
theorem ref08_putClaim_ok {c : Claim} (hok : c.ok = true) (w : World) : Calls Try.prog 23 #[.agg (encClaim c).toArray] w (ResBE (claimB c) 0 w) := by
  have := ref08_PutClaim c w
  rw [show claimOut c = claimB c by simp [claimOut, hok], show claimErr c = 0 by simp [claimErr, hok]] at this
  exact this
theorem putClaim_no {c : Claim} (hok : c.ok = false) (w : World) : Calls Try.prog 22 #[.agg (encClaim c).toArray] w (ResBE [] 60 w) := by
  have := entry_PutClaim c w
  rw [show claimOut c = [] by simp [claimOut, hok], show claimErr c = 60 by simp [claimErr, hok]] at this
  exact this
theorem ref08_putClaim_no {c : Claim} (hok : c.ok = false) (w : World) : Calls Try.prog 23 #[.agg (encClaim c).toArray] w (ResBE [] 60 w) := by
  have := ref08_PutClaim c w
  rw [show claimOut c = [] by simp [claimOut, hok], show claimErr c = 60 by simp [claimErr, hok]] at this
  exact this
theorem checkClaim_no {c : Claim} (h : c.ok = false) (w : World) : Calls Try.prog 24 #[.agg (encClaim c).toArray] w (Res (.int .i64 60) w) := by
  have := entry_CheckClaim c w
  rw [h] at this; exact this
def law_c : Claim := { region := 1, epoch := 2, node := 3, size := Claim.zero.size, root := Claim.zero.root }
theorem law_c_ok : law_c.ok = true := by decide
theorem claim_zero_ok : Claim.zero.ok = false := by decide
set_option maxRecDepth 20000 in
set_option maxHeartbeats 2000000 in
theorem estreatlaw08_claims (w : World) : Calls Try.prog 25 #[] w (Res (.bool true) w) := by
  have h1 : tell law_c.ok = 0 := by rw [law_c_ok]; rfl
  have h2 : tell Claim.zero.ok = 60 := by rw [claim_zero_ok]; rfl
  have hc : ({ region := 1, epoch := 2, node := 3, size := Claim.zero.size, root := Claim.zero.root } : Claim) = law_c := rfl
  go_enter Try.func25, Try.ntmps25
  go_wp2_with (first | (go_at_call 22; refine (putClaim_ok law_c_ok _).mono ?_; rintro e w1 ⟨v1, rfl, hown, hb⟩; obtain ⟨a1, cap1, rfl, hsl1, hcap1, hblk1⟩ := hown.sl.slice encB_length; have ha := below_rule hb; have hs := hb.size; (try simp only [World.size_alloc, World.size_setCell, size_put, World.size_drew] at hs)) | (go_at_call 26; refine (getClaim_ok law_c_ok _ _ _ (SliceAt.below hsl1 (by (repeat' (first | exact Below.refl _ _ | assumption | refine below_drew ?_ | refine below_drewN ?_ _ | refine below_alloc ?_ _ | refine below_call ?_ (by assumption) | refine below_put ?_ _ _ _ (by first | omega | (simp; omega)) | refine below_setCell ?_ _ _ (by first | (simp; omega) | (simp; done) | omega) | refine below_putObj ?_ _ _ (by first | omega | (simp; omega) | (simp; done)))))) hcap1).mono ?_; rintro e w1 ⟨rfl, hb⟩; have ha := below_rule hb; have hs := hb.size; (try simp only [World.size_alloc, World.size_setCell, size_put, World.size_drew] at hs)) | (go_at_call 24; refine (entry_CheckClaim _ _).mono ?_; rintro e w1 ⟨rfl, hb⟩; have ha := below_rule hb; have hs := hb.size; (try simp only [World.size_alloc, World.size_setCell, size_put, World.size_drew] at hs)))
  go_ret
  exact ⟨rfl, by (repeat' (first | exact Below.refl _ _ | assumption | refine below_drew ?_ | refine below_drewN ?_ _ | refine below_alloc ?_ _ | refine below_call ?_ (by assumption) | refine below_put ?_ _ _ _ (by first | omega | (simp; omega)) | refine below_setCell ?_ _ _ (by first | (simp; omega) | (simp; done) | omega) | refine below_putObj ?_ _ _ (by first | omega | (simp; omega) | (simp; done))))⟩
set_option maxRecDepth 20000 in
set_option maxHeartbeats 4000000 in
theorem estreatlaw08_EntryClaims (c : Claim) (w : World) : Calls Try.prog 5 #[.agg (encClaim c).toArray] w (Res (.bool true) w) := by
  cases hok : c.ok
  · go_enter Try.func5, Try.ntmps5
    go_wp2_with (first | (go_at_call 22; refine (putClaim_no hok _).mono ?_; rintro e w1 ⟨v1, rfl, hown, hb⟩; obtain ⟨a1, cap1, rfl, hsl1, hcap1, hblk1⟩ := hown.sl.slice encB_length; have ha := below_rule hb; have hs := hb.size; (try simp only [World.size_alloc, World.size_setCell, size_put, World.size_drew] at hs)) | (go_at_call 23; refine (ref08_putClaim_no hok _).mono ?_; rintro e w2 ⟨v2, rfl, hown2, hb⟩; obtain ⟨a2, cap2, rfl, hsl2, hcap2, hblk2⟩ := hown2.sl.slice encB_length; have hst1 : (strConv (.slice a1 0 cap1)).run Try.prog w2 = _ := run_strAt w2 a1 cap1 [] (SliceAt.below hsl1 hb); have hst2 : (strConv (.slice a2 0 cap2)).run Try.prog w2 = _ := run_strAt w2 a2 cap2 [] hsl2; have ha := below_rule hb; have hs := hb.size; (try simp only [World.size_alloc, World.size_setCell, size_put, World.size_drew] at hs)) | (go_at_call 24; refine (checkClaim_no hok _).mono ?_; rintro e w1 ⟨rfl, hb⟩; have ha := below_rule hb; have hs := hb.size; (try simp only [World.size_alloc, World.size_setCell, size_put, World.size_drew] at hs)) | (go_at_call 25; refine (estreatlaw08_claims _).mono ?_; rintro e w1 ⟨rfl, hb⟩; have ha := below_rule hb; have hs := hb.size; (try simp only [World.size_alloc, World.size_setCell, size_put, World.size_drew] at hs)))
    go_ret
    exact ⟨rfl, by (repeat' (first | exact Below.refl _ _ | assumption | refine below_drew ?_ | refine below_drewN ?_ _ | refine below_alloc ?_ _ | refine below_call ?_ (by assumption) | refine below_put ?_ _ _ _ (by first | omega | (simp; omega)) | refine below_setCell ?_ _ _ (by first | (simp; omega) | (simp; done) | omega) | refine below_putObj ?_ _ _ (by first | omega | (simp; omega) | (simp; done))))⟩
  · go_enter Try.func5, Try.ntmps5
    go_wp2_with (first | (go_at_call 22; refine (putClaim_ok hok _).mono ?_; rintro e w1 ⟨v1, rfl, hown, hb⟩; obtain ⟨a1, cap1, rfl, hsl1, hcap1, hblk1⟩ := hown.sl.slice encB_length; have ha := below_rule hb; have hs := hb.size; (try simp only [World.size_alloc, World.size_setCell, size_put, World.size_drew] at hs)) | (go_at_call 23; refine (ref08_putClaim_ok hok _).mono ?_; rintro e w2 ⟨v2, rfl, hown2, hb⟩; obtain ⟨a2, cap2, rfl, hsl2, hcap2, hblk2⟩ := hown2.sl.slice encB_length; have hst1 := run_strAt w2 a1 cap1 _ (SliceAt.below hsl1 hb); have hst2 := run_strAt w2 a2 cap2 _ hsl2; have ha := below_rule hb; have hs := hb.size; (try simp only [World.size_alloc, World.size_setCell, size_put, World.size_drew] at hs)) | (go_at_call 26; refine (getClaim_ok hok _ _ _ (SliceAt.below hsl1 (by (repeat' (first | exact Below.refl _ _ | assumption | refine below_drew ?_ | refine below_drewN ?_ _ | refine below_alloc ?_ _ | refine below_call ?_ (by assumption) | refine below_put ?_ _ _ _ (by first | omega | (simp; omega)) | refine below_setCell ?_ _ _ (by first | (simp; omega) | (simp; done) | omega) | refine below_putObj ?_ _ _ (by first | omega | (simp; omega) | (simp; done)))))) hcap1).mono ?_; rintro e w1 ⟨rfl, hb⟩; have ha := below_rule hb; have hs := hb.size; (try simp only [World.size_alloc, World.size_setCell, size_put, World.size_drew] at hs)) | (go_at_call 24; refine (checkClaim_ok hok _).mono ?_; rintro e w1 ⟨rfl, hb⟩; have ha := below_rule hb; have hs := hb.size; (try simp only [World.size_alloc, World.size_setCell, size_put, World.size_drew] at hs)) | (go_at_call 25; refine (estreatlaw08_claims _).mono ?_; rintro e w1 ⟨rfl, hb⟩; have ha := below_rule hb; have hs := hb.size; (try simp only [World.size_alloc, World.size_setCell, size_put, World.size_drew] at hs)))
    go_ret
    exact ⟨rfl, by (repeat' (first | exact Below.refl _ _ | assumption | refine below_drew ?_ | refine below_drewN ?_ _ | refine below_alloc ?_ _ | refine below_call ?_ (by assumption) | refine below_put ?_ _ _ _ (by first | omega | (simp; omega)) | refine below_setCell ?_ _ _ (by first | (simp; omega) | (simp; done) | omega) | refine below_putObj ?_ _ _ (by first | omega | (simp; omega) | (simp; done))))⟩
end Go.Proofs.Ytgnebofjfmbccaa
