/-
  The checks of entries, heads and claims: what each call comes to.
-/
import Derived.Test.YtgnebofjfmbccaaZ
set_option linter.all false
namespace Go.Proofs.Ytgnebofjfmbccaa
open Go.RowKit
def inR (n lo hi : Int) : Bool := decide (lo ≤ n) && decide (n ≤ hi)
def tell (b : Bool) : Int := if b then 0 else 60
def Claim.ok (c : Claim) : Bool := inR c.region 1 5 && inR c.epoch 1 900000000 && inR c.node 1 3 && inR c.size 0 100000
def Head.ok (h : Head) : Bool := inR h.region 1 5 && inR h.epoch 1 900000000 && inR h.size 0 100000 && inR h.tick 0 900000000
def Head.err (h : Head) : Int := if h.ok then 0 else 70
def Signed.ok (s : Signed) : Bool := s.head.ok && inR s.node 1 3
def Entry.okU (e : Entry) : Bool := inR e.client 1 3 && inR e.seq 1 1000000 && decide (e.text.size ≤ 200) && decide ({ kind := 1, client := e.client, seq := e.seq, text := e.text, head := Entry.zero.head, claim := Entry.zero.claim } = e)
def Entry.okA (e : Entry) : Bool := e.head.head.ok && inR e.head.node 1 3 && decide ({ kind := 2, client := Entry.zero.client, seq := Entry.zero.seq, text := Entry.zero.text, head := e.head, claim := Entry.zero.claim } = e)
def Entry.okC (e : Entry) : Bool := e.claim.ok && decide ({ kind := 3, client := Entry.zero.client, seq := Entry.zero.seq, text := Entry.zero.text, head := Entry.zero.head, claim := e.claim } = e)
def Entry.ok (e : Entry) : Bool := if e.kind = 1 then e.okU else if e.kind = 2 then e.okA else if e.kind = 3 then e.okC else false
def Item.ok (x : Item) : Bool := inR x.epoch 1 900000000 && x.entry.ok

set_option maxHeartbeats 400000 in
theorem entry_within (n lo hi : Int) (w : World) :
    Calls Try.prog 57 #[.int .i64 n, .int .i64 lo, .int .i64 hi] w fun e w' => e = .returned (.bool (inR n lo hi)) ∧ w = w' := by
  by_cases h : lo ≤ n <;> by_cases h2 : n ≤ hi
  all_goals
    go_enter Try.func57, Try.ntmps57
    go_wp2
    go_ret
    exact ⟨by simp [inR, h, h2], rfl⟩
set_option maxHeartbeats 400000 in
theorem head_within (n lo hi : Int) (w : World) :
    Calls Try.prog 66 #[.int .i64 n, .int .i64 lo, .int .i64 hi] w fun e w' => e = .returned (.bool (inR n lo hi)) ∧ w = w' := by
  by_cases h : lo ≤ n <;> by_cases h2 : n ≤ hi
  all_goals
    go_enter Try.func66, Try.ntmps66
    go_wp2
    go_ret
    exact ⟨by simp [inR, h, h2], rfl⟩
set_option maxHeartbeats 400000 in
theorem entry_told (b : Bool) (w : World) :
    Calls Try.prog 56 #[.bool b] w fun e w' => e = .returned (.int .i64 (tell b)) ∧ w = w' := by
  cases b
  all_goals
    go_enter Try.func56, Try.ntmps56
    go_wp2
    go_ret
    exact ⟨rfl, rfl⟩
set_option maxHeartbeats 400000 in
theorem entry_CheckClaim (c : Claim) (w : World) :
    Calls Try.prog 24 #[.agg (encClaim c).toArray] w (Res (.int .i64 (tell c.ok)) w) := by
  go_enter Try.func24, Try.ntmps24
  go_wp2_with (first | (go_at_call 57; refine (entry_within _ _ _ _).mono ?_; rintro e w' ⟨rfl, rfl⟩) | (go_at_call 56; refine (entry_told _ _).mono ?_; rintro e w' ⟨rfl, rfl⟩))
  all_goals
    go_ret
    exact ⟨by simp [Claim.ok, *], by (repeat' (first | exact Below.refl _ _ | assumption | refine below_drew ?_ | refine below_drewN ?_ _ | refine below_alloc ?_ _ | refine below_call ?_ (by assumption) | refine below_put ?_ _ _ _ (by first | omega | (simp; omega)) | refine below_setCell ?_ _ _ (by first | (simp; omega) | (simp; done) | omega) | refine below_putObj ?_ _ _ (by first | omega | (simp; omega) | (simp; done))))⟩
set_option maxHeartbeats 400000 in
theorem head_Check (h : Head) (w : World) :
    Calls Try.prog 29 #[.agg (encHead h).toArray] w (Res (.int .i64 h.err) w) := by
  go_enter Try.func29, Try.ntmps29
  go_wp2_with (go_at_call 66; refine (head_within _ _ _ _).mono ?_; rintro e w' ⟨rfl, rfl⟩)
  all_goals
    go_ret
    exact ⟨by simp [Head.err, Head.ok, *], by (repeat' (first | exact Below.refl _ _ | assumption | refine below_drew ?_ | refine below_drewN ?_ _ | refine below_alloc ?_ _ | refine below_call ?_ (by assumption) | refine below_put ?_ _ _ _ (by first | omega | (simp; omega)) | refine below_setCell ?_ _ _ (by first | (simp; omega) | (simp; done) | omega) | refine below_putObj ?_ _ _ (by first | omega | (simp; omega) | (simp; done))))⟩
set_option maxHeartbeats 1000000 in
theorem entry_Check_1 (e : Entry) (hk : e.kind = 1) (w : World) :
    Calls Try.prog 87 #[.agg (encEntry e).toArray] w (Res (.int .i64 (tell e.okU)) w) := by
  go_enter Try.func87, Try.ntmps87
  go_wp2_with fail
  go_region
  go_wp2_with (first | (go_at_call 57; refine (entry_within _ _ _ _).mono ?_; rintro e w' ⟨rfl, rfl⟩) | (go_at_call 56; refine (entry_told _ _).mono ?_; rintro e w' ⟨rfl, rfl⟩))
  all_goals
    go_ret
    exact ⟨by first | (have ht : e.text.size ≤ 200 := by omega); simp [Entry.okU, *]; done | (have ht : ¬ e.text.size ≤ 200 := by omega); simp [Entry.okU, *]; done | simp [Entry.okU, *], by (repeat' (first | exact Below.refl _ _ | assumption | refine below_drew ?_ | refine below_drewN ?_ _ | refine below_alloc ?_ _ | refine below_call ?_ (by assumption) | refine below_put ?_ _ _ _ (by first | omega | (simp; omega)) | refine below_setCell ?_ _ _ (by first | (simp; omega) | (simp; done) | omega) | refine below_putObj ?_ _ _ (by first | omega | (simp; omega) | (simp; done))))⟩
theorem err_eq (h : Head) : (h.err == 0) = h.ok := by unfold Head.err; cases h.ok <;> rfl
theorem tell_eq (b : Bool) : (tell b == 0) = b := by cases b <;> rfl
set_option maxHeartbeats 1000000 in
theorem entry_Check_2 (e : Entry) (hk : e.kind = 2) (w : World) :
    Calls Try.prog 87 #[.agg (encEntry e).toArray] w (Res (.int .i64 (tell e.okA)) w) := by
  have hq := err_eq
  go_enter Try.func87, Try.ntmps87
  go_wp2_with (first | (go_at_call 57; refine (entry_within _ _ _ _).mono ?_; rintro e w' ⟨rfl, rfl⟩) | (go_at_call 56; refine (entry_told _ _).mono ?_; rintro e w' ⟨rfl, rfl⟩) | (go_at_call 29; refine (head_Check _ _).mono ?_; rintro e w1 ⟨rfl, hb⟩; have ha := below_rule hb; have hs := hb.size; (try simp only [World.size_alloc, World.size_setCell, size_put, World.size_drew] at hs)))
  all_goals
    go_ret
    exact ⟨by simp [Entry.okA, *], by (repeat' (first | exact Below.refl _ _ | assumption | refine below_drew ?_ | refine below_drewN ?_ _ | refine below_alloc ?_ _ | refine below_call ?_ (by assumption) | refine below_put ?_ _ _ _ (by first | omega | (simp; omega)) | refine below_setCell ?_ _ _ (by first | (simp; omega) | (simp; done) | omega) | refine below_putObj ?_ _ _ (by first | omega | (simp; omega) | (simp; done))))⟩
set_option maxHeartbeats 1000000 in
theorem entry_Check_3 (e : Entry) (hk : e.kind = 3) (w : World) :
    Calls Try.prog 87 #[.agg (encEntry e).toArray] w (Res (.int .i64 (tell e.okC)) w) := by
  have hq := tell_eq
  go_enter Try.func87, Try.ntmps87
  go_wp2_with (first | (go_at_call 57; refine (entry_within _ _ _ _).mono ?_; rintro e w' ⟨rfl, rfl⟩) | (go_at_call 56; refine (entry_told _ _).mono ?_; rintro e w' ⟨rfl, rfl⟩) | (go_at_call 24; refine (entry_CheckClaim _ _).mono ?_; rintro e w1 ⟨rfl, hb⟩; have ha := below_rule hb; have hs := hb.size; (try simp only [World.size_alloc, World.size_setCell, size_put, World.size_drew] at hs)))
  all_goals
    go_ret
    exact ⟨by simp [Entry.okC, *], by (repeat' (first | exact Below.refl _ _ | assumption | refine below_drew ?_ | refine below_drewN ?_ _ | refine below_alloc ?_ _ | refine below_call ?_ (by assumption) | refine below_put ?_ _ _ _ (by first | omega | (simp; omega)) | refine below_setCell ?_ _ _ (by first | (simp; omega) | (simp; done) | omega) | refine below_putObj ?_ _ _ (by first | omega | (simp; omega) | (simp; done))))⟩
set_option maxHeartbeats 1000000 in
theorem entry_Check_0 (e : Entry) (h1 : (e.kind == 1) = false) (h2 : (e.kind == 2) = false) (h3 : (e.kind == 3) = false) (w : World) :
    Calls Try.prog 87 #[.agg (encEntry e).toArray] w (Res (.int .i64 (tell false)) w) := by
  go_enter Try.func87, Try.ntmps87
  go_wp2_with (first | (go_at_call 56; refine (entry_told _ _).mono ?_; rintro e w' ⟨rfl, rfl⟩))
  all_goals
    go_ret
    exact ⟨by simp [*], by (repeat' (first | exact Below.refl _ _ | assumption | refine below_drew ?_ | refine below_drewN ?_ _ | refine below_alloc ?_ _ | refine below_call ?_ (by assumption) | refine below_put ?_ _ _ _ (by first | omega | (simp; omega)) | refine below_setCell ?_ _ _ (by first | (simp; omega) | (simp; done) | omega) | refine below_putObj ?_ _ _ (by first | omega | (simp; omega) | (simp; done))))⟩
theorem entry_Check (e : Entry) (w : World) :
    Calls Try.prog 87 #[.agg (encEntry e).toArray] w (Res (.int .i64 (tell e.ok)) w) := by
  unfold Entry.ok
  split
  · exact entry_Check_1 e ‹_› w
  · split
    · exact entry_Check_2 e ‹_› w
    · split
      · exact entry_Check_3 e ‹_› w
      · exact entry_Check_0 e (by simpa) (by simpa) (by simpa) w
end Go.Proofs.Ytgnebofjfmbccaa
