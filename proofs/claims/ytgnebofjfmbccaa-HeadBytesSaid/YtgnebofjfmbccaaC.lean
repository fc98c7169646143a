/-
  The references' checks of heads, claims, entries and logs: what each call comes to.
-/
import Derived.Test.YtgnebofjfmbccaaB
set_option linter.all false
namespace Go.Proofs.Ytgnebofjfmbccaa
open Go.RowKit
set_option maxHeartbeats 400000 in
theorem ref07_within (n lo hi : Int) (w : World) :
    Calls Try.prog 99 #[.int .i64 n, .int .i64 lo, .int .i64 hi] w fun e w' => e = .returned (.bool (inR n lo hi)) ∧ w = w' := by
  by_cases h : lo ≤ n <;> by_cases h2 : n ≤ hi
  all_goals
    go_enter Try.func99, Try.ntmps99
    go_wp2
    go_ret
    exact ⟨by simp [inR, h, h2], rfl⟩
set_option maxHeartbeats 400000 in
theorem ref08_within (n lo hi : Int) (w : World) :
    Calls Try.prog 89 #[.int .i64 n, .int .i64 lo, .int .i64 hi] w fun e w' => e = .returned (.bool (inR n lo hi)) ∧ w = w' := by
  by_cases h : lo ≤ n <;> by_cases h2 : n ≤ hi
  all_goals
    go_enter Try.func89, Try.ntmps89
    go_wp2
    go_ret
    exact ⟨by simp [inR, h, h2], rfl⟩
set_option maxHeartbeats 400000 in
theorem ref07_Right (h : Head) (w : World) :
    Calls Try.prog 64 #[.agg (encHead h).toArray] w (Res (.bool h.ok) w) := by
  go_enter Try.func64, Try.ntmps64
  go_wp2_with (go_at_call 99; refine (ref07_within _ _ _ _).mono ?_; rintro e w' ⟨rfl, rfl⟩)
  all_goals
    go_ret
    exact ⟨by simp [Head.ok, *], by (repeat' (first | exact Below.refl _ _ | assumption | refine below_drew ?_ | refine below_drewN ?_ _ | refine below_alloc ?_ _ | refine below_call ?_ (by assumption) | refine below_put ?_ _ _ _ (by first | omega | (simp; omega)) | refine below_setCell ?_ _ _ (by first | (simp; omega) | (simp; done) | omega) | refine below_putObj ?_ _ _ (by first | omega | (simp; omega) | (simp; done))))⟩
set_option maxHeartbeats 400000 in
theorem ref07_May (s : Signed) (w : World) :
    Calls Try.prog 108 #[.agg (encSigned s).toArray] w (Res (.bool s.ok) w) := by
  go_enter Try.func108, Try.ntmps108
  go_wp2_with (first | (go_at_call 99; refine (ref07_within _ _ _ _).mono ?_; rintro e w' ⟨rfl, rfl⟩) | (go_at_call 64; refine (ref07_Right _ _).mono ?_; rintro e w1 ⟨rfl, hb⟩; have ha := below_rule hb; have hs := hb.size; (try simp only [World.size_alloc, World.size_setCell, size_put, World.size_drew] at hs)))
  all_goals
    go_ret
    exact ⟨by simp [Signed.ok, *], by (repeat' (first | exact Below.refl _ _ | assumption | refine below_drew ?_ | refine below_drewN ?_ _ | refine below_alloc ?_ _ | refine below_call ?_ (by assumption) | refine below_put ?_ _ _ _ (by first | omega | (simp; omega)) | refine below_setCell ?_ _ _ (by first | (simp; omega) | (simp; done) | omega) | refine below_putObj ?_ _ _ (by first | omega | (simp; omega) | (simp; done))))⟩
set_option maxHeartbeats 400000 in
theorem ref08_RightClaim (c : Claim) (w : World) :
    Calls Try.prog 54 #[.agg (encClaim c).toArray] w (Res (.bool c.ok) w) := by
  go_enter Try.func54, Try.ntmps54
  go_wp2_with (go_at_call 89; refine (ref08_within _ _ _ _).mono ?_; rintro e w' ⟨rfl, rfl⟩)
  all_goals
    go_ret
    exact ⟨by simp [Claim.ok, *], by (repeat' (first | exact Below.refl _ _ | assumption | refine below_drew ?_ | refine below_drewN ?_ _ | refine below_alloc ?_ _ | refine below_call ?_ (by assumption) | refine below_put ?_ _ _ _ (by first | omega | (simp; omega)) | refine below_setCell ?_ _ _ (by first | (simp; omega) | (simp; done) | omega) | refine below_putObj ?_ _ _ (by first | omega | (simp; omega) | (simp; done))))⟩
def Entry.okU' (e : Entry) : Bool := inR e.client 1 3 && inR e.seq 1 1000000 && decide (e.text.size ≤ 200) && decide (e.head = Signed.zero) && decide (e.claim = Claim.zero)
def Entry.okA' (e : Entry) : Bool := decide (e.client = 0) && decide (e.seq = 0) && e.text.toList.isEmpty && e.head.ok && decide (e.claim = Claim.zero)
def Entry.okC' (e : Entry) : Bool := decide (e.client = 0) && decide (e.seq = 0) && e.text.toList.isEmpty && decide (e.head = Signed.zero) && e.claim.ok
theorem empty_iff (t : ByteArray) : t.toList.isEmpty = decide ((⟨#[]⟩ : ByteArray) = t) := by
  rw [Bool.eq_iff_iff, ByteArray.toList_eq]
  simp only [List.isEmpty_iff, decide_eq_true_eq]
  constructor
  · intro h; exact ByteArray.ext (Array.ext' h.symm)
  · intro h; rw [← h]
theorem Entry.okU_eq (e : Entry) (h : e.kind = 1) : e.okU = e.okU' := by
  unfold Entry.okU Entry.okU'
  cases e
  (try simp only at h); subst h
  rw [Bool.eq_iff_iff]
  simp only [Entry.zero, Bool.and_eq_true, decide_eq_true_eq, Entry.mk.injEq, true_and]
  constructor
  · rintro ⟨h1, h3, h4⟩; exact ⟨⟨h1, h3.symm⟩, h4.symm⟩
  · rintro ⟨⟨h1, h3⟩, h4⟩; exact ⟨h1, h3.symm, h4.symm⟩
theorem Entry.okA_eq (e : Entry) (h : e.kind = 2) : e.okA = e.okA' := by
  unfold Entry.okA Entry.okA' Signed.ok
  rw [empty_iff]
  cases e
  (try simp only at h); subst h
  rw [Bool.eq_iff_iff]
  simp only [Entry.zero, Bool.and_eq_true, decide_eq_true_eq, Entry.mk.injEq, true_and, and_true]
  constructor
  · rintro ⟨⟨h1, h2⟩, h3, h4, h5, h6⟩; exact ⟨⟨⟨⟨h3.symm, h4.symm⟩, h5⟩, h1, h2⟩, h6.symm⟩
  · rintro ⟨⟨⟨⟨h3, h4⟩, h5⟩, h1, h2⟩, h6⟩; exact ⟨⟨h1, h2⟩, h3.symm, h4.symm, h5, h6.symm⟩
theorem Entry.okC_eq (e : Entry) (h : e.kind = 3) : e.okC = e.okC' := by
  unfold Entry.okC Entry.okC'
  rw [empty_iff]
  cases e
  (try simp only at h); subst h
  rw [Bool.eq_iff_iff]
  simp only [Entry.zero, Bool.and_eq_true, decide_eq_true_eq, Entry.mk.injEq, true_and, and_true]
  constructor
  · rintro ⟨h1, h3, h4, h5, h6⟩; exact ⟨⟨⟨⟨h3.symm, h4.symm⟩, h5⟩, h6.symm⟩, h1⟩
  · rintro ⟨⟨⟨⟨h3, h4⟩, h5⟩, h6⟩, h1⟩; exact ⟨h1, h3.symm, h4.symm, h5, h6.symm⟩
set_option maxHeartbeats 1000000 in
theorem ref08_Right_1 (e : Entry) (hk : e.kind = 1) (w : World) :
    Calls Try.prog 90 #[.agg (encEntry e).toArray] w (Res (.bool e.okU') w) := by
  go_enter Try.func90, Try.ntmps90
  go_wp2_with (go_at_call 89; refine (ref08_within _ _ _ _).mono ?_; rintro e w' ⟨rfl, rfl⟩)
  all_goals
    go_ret
    exact ⟨ret_bool (by first | (have ht : e.text.size ≤ 200 := by omega); simp [Entry.okU', *]; done | (have ht : ¬ e.text.size ≤ 200 := by omega); simp [Entry.okU', *]; done | simp [Entry.okU', *]), by (repeat' (first | exact Below.refl _ _ | assumption | refine below_drew ?_ | refine below_drewN ?_ _ | refine below_alloc ?_ _ | refine below_call ?_ (by assumption) | refine below_put ?_ _ _ _ (by first | omega | (simp; omega)) | refine below_setCell ?_ _ _ (by first | (simp; omega) | (simp; done) | omega) | refine below_putObj ?_ _ _ (by first | omega | (simp; omega) | (simp; done))))⟩
set_option maxHeartbeats 1000000 in
theorem ref08_Right_2 (e : Entry) (hk : e.kind = 2) (w : World) :
    Calls Try.prog 90 #[.agg (encEntry e).toArray] w (Res (.bool e.okA') w) := by
  go_enter Try.func90, Try.ntmps90
  go_wp2_with (first | (go_at_call 108; refine (ref07_May _ _).mono ?_; rintro e w1 ⟨rfl, hb⟩; have ha := below_rule hb; have hs := hb.size; (try simp only [World.size_alloc, World.size_setCell, size_put, World.size_drew] at hs)))
  all_goals
    go_ret
    exact ⟨ret_bool (by simp_all [Entry.okA']), by (repeat' (first | exact Below.refl _ _ | assumption | refine below_drew ?_ | refine below_drewN ?_ _ | refine below_alloc ?_ _ | refine below_call ?_ (by assumption) | refine below_put ?_ _ _ _ (by first | omega | (simp; omega)) | refine below_setCell ?_ _ _ (by first | (simp; omega) | (simp; done) | omega) | refine below_putObj ?_ _ _ (by first | omega | (simp; omega) | (simp; done))))⟩
set_option maxHeartbeats 1000000 in
theorem ref08_Right_3 (e : Entry) (hk : e.kind = 3) (w : World) :
    Calls Try.prog 90 #[.agg (encEntry e).toArray] w (Res (.bool e.okC') w) := by
  go_enter Try.func90, Try.ntmps90
  go_wp2_with (first | (go_at_call 54; refine (ref08_RightClaim _ _).mono ?_; rintro e w1 ⟨rfl, hb⟩; have ha := below_rule hb; have hs := hb.size; (try simp only [World.size_alloc, World.size_setCell, size_put, World.size_drew] at hs)))
  all_goals
    go_ret
    exact ⟨ret_bool (by simp_all [Entry.okC']), by (repeat' (first | exact Below.refl _ _ | assumption | refine below_drew ?_ | refine below_drewN ?_ _ | refine below_alloc ?_ _ | refine below_call ?_ (by assumption) | refine below_put ?_ _ _ _ (by first | omega | (simp; omega)) | refine below_setCell ?_ _ _ (by first | (simp; omega) | (simp; done) | omega) | refine below_putObj ?_ _ _ (by first | omega | (simp; omega) | (simp; done))))⟩
set_option maxHeartbeats 1000000 in
theorem ref08_Right_0 (e : Entry) (h1 : (e.kind == 1) = false) (h2 : (e.kind == 2) = false) (h3 : (e.kind == 3) = false) (w : World) :
    Calls Try.prog 90 #[.agg (encEntry e).toArray] w (Res (.bool false) w) := by
  go_enter Try.func90, Try.ntmps90
  go_wp2
  all_goals
    go_ret
    exact ⟨rfl, by (repeat' (first | exact Below.refl _ _ | assumption | refine below_drew ?_ | refine below_drewN ?_ _ | refine below_alloc ?_ _ | refine below_call ?_ (by assumption) | refine below_put ?_ _ _ _ (by first | omega | (simp; omega)) | refine below_setCell ?_ _ _ (by first | (simp; omega) | (simp; done) | omega) | refine below_putObj ?_ _ _ (by first | omega | (simp; omega) | (simp; done))))⟩
theorem ref08_Right (e : Entry) (w : World) :
    Calls Try.prog 90 #[.agg (encEntry e).toArray] w (Res (.bool e.ok) w) := by
  unfold Entry.ok
  split
  · rename_i h; rw [Entry.okU_eq e h]; exact ref08_Right_1 e h w
  · split
    · rename_i h; rw [Entry.okA_eq e h]; exact ref08_Right_2 e h w
    · split
      · rename_i h; rw [Entry.okC_eq e h]; exact ref08_Right_3 e h w
      · exact ref08_Right_0 e (by simpa) (by simpa) (by simpa) w
set_option maxHeartbeats 400000 in
theorem ref08_RightItem (x : Item) (w : World) :
    Calls Try.prog 49 #[.agg (encItem x).toArray] w (Res (.bool x.ok) w) := by
  go_enter Try.func49, Try.ntmps49
  go_wp2_with (first | (go_at_call 89; refine (ref08_within _ _ _ _).mono ?_; rintro e w' ⟨rfl, rfl⟩) | (go_at_call 90; refine (ref08_Right _ _).mono ?_; rintro e w1 ⟨rfl, hb⟩; have ha := below_rule hb; have hs := hb.size; (try simp only [World.size_alloc, World.size_setCell, size_put, World.size_drew] at hs)))
  all_goals
    go_ret
    exact ⟨by simp [Item.ok, *], by (repeat' (first | exact Below.refl _ _ | assumption | refine below_drew ?_ | refine below_drewN ?_ _ | refine below_alloc ?_ _ | refine below_call ?_ (by assumption) | refine below_put ?_ _ _ _ (by first | omega | (simp; omega)) | refine below_setCell ?_ _ _ (by first | (simp; omega) | (simp; done) | omega) | refine below_putObj ?_ _ _ (by first | omega | (simp; omega) | (simp; done))))⟩
end Go.Proofs.Ytgnebofjfmbccaa
