/-
  What may come behind a log: the reference.
-/
import Derived.Test.YtgnebofjfmbccaaE
set_option linter.all false
namespace Go.Proofs.Ytgnebofjfmbccaa
open Go.RowKit
theorem lastEpoch_of {l : List Item} (h : 0 < l.length) : lastEpoch l = l[l.length - 1].epoch := by unfold lastEpoch epochAt; rw [dif_pos ⟨h, Nat.le_refl _⟩]
theorem lastEpoch_nil {l : List Item} (h : ¬ 0 < l.length) : lastEpoch l = 0 := by unfold lastEpoch epochAt; rw [dif_neg (fun e => h e.1)]
theorem SliceAt.last {α : Type} {enc : α → List Value} {n : Nat} {w : World} {a : Option Addr} {l : List α} (h : SliceAt enc n w a l) (hk : 0 < l.length) : ∃ b off, a = some ⟨b, off, none⟩ ∧ b < w.heap.size ∧ rowOf (w.at_ b) (off + (l.length - 1) * n) n = some (enc l[l.length - 1]) :=
  h.get (k := l.length - 1) (by omega)
/-- mayErr behind the log's and the item's form and the epochs. -/
def mayRest (l : List Item) (x : Item) : Int := if decide (2000 ≤ l.length) then 2 else if decide (x.entry.kind = 1) && l.any (isOld x.entry.client x.entry.seq) then 101 else 0
theorem mayErr_form {l : List Item} {x : Item} (h : (logOk l && x.ok) = false) : mayErr l x = 100 := by unfold mayErr; rw [h]; rfl
theorem mayErr_epoch {l : List Item} {x : Item} (h : (logOk l && x.ok) = true) (he : x.epoch < lastEpoch l) : mayErr l x = 102 := by unfold mayErr; rw [h, decide_eq_true he]; rfl
theorem mayErr_rest {l : List Item} {x : Item} (h : (logOk l && x.ok) = true) (he : ¬ x.epoch < lastEpoch l) : mayErr l x = mayRest l x := by unfold mayErr; rw [h, decide_eq_false he]; rfl
theorem logOk_len {l : List Item} (h : logOk l = true) : l.length ≤ 2000 := by unfold logOk at h; simp only [Bool.and_eq_true, decide_eq_true_eq] at h; exact h.2
set_option maxHeartbeats 2000000 in
theorem ref11_May (l : List Item) (a : Option Addr) (cap : Nat) (x : Item) (w : World) (h : SliceAt encItem 110 w a l) (hl : l.length ≤ 1000000000000) :
    Calls Try.prog 20 #[.slice a l.length cap, .agg (encItem x).toArray] w (Res (.int .i64 (mayErr l x)) w) := by
  have hS : ∀ w', Below w.heap.size w w' → SliceAt encItem 110 w' a l := fun w' hb => h.below hb
  by_cases hf : (logOk l && x.ok) = true
  case neg =>
    have hf' : (logOk l && x.ok) = false := by simpa using hf
    rw [mayErr_form hf']
    clear hf
    cases hq : logOk l
    · go_enter Try.func20, Try.ntmps20
      go_wp2_with (first | (go_at_call 18; refine (ref11_Right l a cap _ (hS _ (by (repeat' (first | exact Below.refl _ _ | assumption | refine below_drew ?_ | refine below_drewN ?_ _ | refine below_alloc ?_ _ | refine below_call ?_ (by assumption) | refine below_put ?_ _ _ _ (by first | omega | (simp; omega)) | refine below_setCell ?_ _ _ (by first | (simp; omega) | (simp; done) | omega) | refine below_putObj ?_ _ _ (by first | omega | (simp; omega) | (simp; done)))))) hl).mono ?_; rintro e w1 ⟨rfl, hb⟩; have ha := below_rule hb; have hs := hb.size; (try simp only [World.size_alloc, World.size_setCell, size_put, World.size_drew] at hs)))
      go_ret
      exact ⟨rfl, by (repeat' (first | exact Below.refl _ _ | assumption | refine below_drew ?_ | refine below_drewN ?_ _ | refine below_alloc ?_ _ | refine below_call ?_ (by assumption) | refine below_put ?_ _ _ _ (by first | omega | (simp; omega)) | refine below_setCell ?_ _ _ (by first | (simp; omega) | (simp; done) | omega) | refine below_putObj ?_ _ _ (by first | omega | (simp; omega) | (simp; done))))⟩
    · have hx : x.ok = false := by simpa [hq] using hf'
      clear hf'
      go_enter Try.func20, Try.ntmps20
      go_wp2_with (first | (go_at_call 18; refine (ref11_Right l a cap _ (hS _ (by (repeat' (first | exact Below.refl _ _ | assumption | refine below_drew ?_ | refine below_drewN ?_ _ | refine below_alloc ?_ _ | refine below_call ?_ (by assumption) | refine below_put ?_ _ _ _ (by first | omega | (simp; omega)) | refine below_setCell ?_ _ _ (by first | (simp; omega) | (simp; done) | omega) | refine below_putObj ?_ _ _ (by first | omega | (simp; omega) | (simp; done)))))) hl).mono ?_; rintro e w1 ⟨rfl, hb⟩; have ha := below_rule hb; have hs := hb.size; (try simp only [World.size_alloc, World.size_setCell, size_put, World.size_drew] at hs)) | (go_at_call 49; refine (ref08_RightItem _ _).mono ?_; rintro e w1 ⟨rfl, hb⟩; have ha := below_rule hb; have hs := hb.size; (try simp only [World.size_alloc, World.size_setCell, size_put, World.size_drew] at hs)))
      go_ret
      exact ⟨rfl, by (repeat' (first | exact Below.refl _ _ | assumption | refine below_drew ?_ | refine below_drewN ?_ _ | refine below_alloc ?_ _ | refine below_call ?_ (by assumption) | refine below_put ?_ _ _ _ (by first | omega | (simp; omega)) | refine below_setCell ?_ _ _ (by first | (simp; omega) | (simp; done) | omega) | refine below_putObj ?_ _ _ (by first | omega | (simp; omega) | (simp; done))))⟩
  case pos =>
    have hf0 := hf
    simp only [Bool.and_eq_true] at hf0
    obtain ⟨hq, hx⟩ := hf0
    have h2000 := logOk_len hq
    have hx1 := Item.ok_epoch hx
    by_cases hlen : 0 < l.length
    · by_cases he : x.epoch < lastEpoch l
      · rw [mayErr_epoch hf he]
        rw [lastEpoch_of hlen] at he
        clear hf
        go_enter Try.func20, Try.ntmps20
        go_wp2_with (first | (go_at_call 18; refine (ref11_Right l a cap _ (hS _ (by (repeat' (first | exact Below.refl _ _ | assumption | refine below_drew ?_ | refine below_drewN ?_ _ | refine below_alloc ?_ _ | refine below_call ?_ (by assumption) | refine below_put ?_ _ _ _ (by first | omega | (simp; omega)) | refine below_setCell ?_ _ _ (by first | (simp; omega) | (simp; done) | omega) | refine below_putObj ?_ _ _ (by first | omega | (simp; omega) | (simp; done)))))) hl).mono ?_; rintro e w1 ⟨rfl, hb⟩; have ha := below_rule hb; have hs := hb.size; (try simp only [World.size_alloc, World.size_setCell, size_put, World.size_drew] at hs)) | (go_at_call 49; refine (ref08_RightItem _ _).mono ?_; rintro e w1 ⟨rfl, hb⟩; have ha := below_rule hb; have hs := hb.size; (try simp only [World.size_alloc, World.size_setCell, size_put, World.size_drew] at hs)))
        obtain ⟨b, off, ha', hbl, hrow⟩ := h.last hlen
        obtain ⟨c0, -⟩ := item_cells hrow
        subst ha'
        (refine wp_region_ext (by kernel_rfl) (by kernel_rfl) ?_; (repeat (go_big_quiet_step (fail))); refine wpQuiet_nil ?_; intro w1 hw'; have hb := ext_below hw'; clear hw'; have ha := below_rule hb; have hs := hb.size; (try simp only [World.size_alloc, World.size_setCell, size_put, World.size_drew] at hs))
        go_wp2
        go_ret
        exact ⟨rfl, by (repeat' (first | exact Below.refl _ _ | assumption | refine below_drew ?_ | refine below_drewN ?_ _ | refine below_alloc ?_ _ | refine below_call ?_ (by assumption) | refine below_put ?_ _ _ _ (by first | omega | (simp; omega)) | refine below_setCell ?_ _ _ (by first | (simp; omega) | (simp; done) | omega) | refine below_putObj ?_ _ _ (by first | omega | (simp; omega) | (simp; done))))⟩
      · rw [mayErr_rest hf he]
        rw [lastEpoch_of hlen] at he
        clear hf
        by_cases h20 : l.length = 2000
        · have hz : ((l.length : Int) == 2000) = true := by simp; omega
          have hr : mayRest l x = 2 := by unfold mayRest; rw [decide_eq_true (by omega)]; rfl
          rw [hr]
          have H := Lib.hid h20; clear h20 hr h2000
          go_enter Try.func20, Try.ntmps20
          go_wp2_with (first | (go_at_call 18; refine (ref11_Right l a cap _ (hS _ (by (repeat' (first | exact Below.refl _ _ | assumption | refine below_drew ?_ | refine below_drewN ?_ _ | refine below_alloc ?_ _ | refine below_call ?_ (by assumption) | refine below_put ?_ _ _ _ (by first | omega | (simp; omega)) | refine below_setCell ?_ _ _ (by first | (simp; omega) | (simp; done) | omega) | refine below_putObj ?_ _ _ (by first | omega | (simp; omega) | (simp; done)))))) hl).mono ?_; rintro e w1 ⟨rfl, hb⟩; have ha := below_rule hb; have hs := hb.size; (try simp only [World.size_alloc, World.size_setCell, size_put, World.size_drew] at hs)) | (go_at_call 49; refine (ref08_RightItem _ _).mono ?_; rintro e w1 ⟨rfl, hb⟩; have ha := below_rule hb; have hs := hb.size; (try simp only [World.size_alloc, World.size_setCell, size_put, World.size_drew] at hs)))
          obtain ⟨b, off, ha', hbl, hrow⟩ := h.last hlen
          obtain ⟨c0, -⟩ := item_cells hrow
          subst ha'
          (refine wp_region_ext (by kernel_rfl) (by kernel_rfl) ?_; (repeat (go_big_quiet_step (fail))); refine wpQuiet_nil ?_; intro w1 hw'; have hb := ext_below hw'; clear hw'; have ha := below_rule hb; have hs := hb.size; (try simp only [World.size_alloc, World.size_setCell, size_put, World.size_drew] at hs))
          go_wp2
          go_ret
          exact ⟨rfl, by (repeat' (first | exact Below.refl _ _ | assumption | refine below_drew ?_ | refine below_drewN ?_ _ | refine below_alloc ?_ _ | refine below_call ?_ (by assumption) | refine below_put ?_ _ _ _ (by first | omega | (simp; omega)) | refine below_setCell ?_ _ _ (by first | (simp; omega) | (simp; done) | omega) | refine below_putObj ?_ _ _ (by first | omega | (simp; omega) | (simp; done))))⟩
        · have hz : ((l.length : Int) == 2000) = false := by simp; omega
          have hr : mayRest l x = if decide (x.entry.kind = 1) && l.any (isOld x.entry.client x.entry.seq) then 101 else 0 := by unfold mayRest; rw [decide_eq_false (by omega)]; rfl
          have H := Lib.hid hr; clear h20 hr
          go_enter Try.func20, Try.ntmps20
          go_wp2_with (first | (go_at_call 18; refine (ref11_Right l a cap _ (hS _ (by (repeat' (first | exact Below.refl _ _ | assumption | refine below_drew ?_ | refine below_drewN ?_ _ | refine below_alloc ?_ _ | refine below_call ?_ (by assumption) | refine below_put ?_ _ _ _ (by first | omega | (simp; omega)) | refine below_setCell ?_ _ _ (by first | (simp; omega) | (simp; done) | omega) | refine below_putObj ?_ _ _ (by first | omega | (simp; omega) | (simp; done)))))) hl).mono ?_; rintro e w1 ⟨rfl, hb⟩; have ha := below_rule hb; have hs := hb.size; (try simp only [World.size_alloc, World.size_setCell, size_put, World.size_drew] at hs)) | (go_at_call 49; refine (ref08_RightItem _ _).mono ?_; rintro e w1 ⟨rfl, hb⟩; have ha := below_rule hb; have hs := hb.size; (try simp only [World.size_alloc, World.size_setCell, size_put, World.size_drew] at hs)))
          obtain ⟨b, off, ha', hbl, hrow⟩ := h.last hlen
          obtain ⟨c0, -⟩ := item_cells hrow
          subst ha'
          (refine wp_region_ext (by kernel_rfl) (by kernel_rfl) ?_; (repeat (go_big_quiet_step (fail))); refine wpQuiet_nil ?_; intro w1 hw'; have hb := ext_below hw'; clear hw'; have ha := below_rule hb; have hs := hb.size; (try simp only [World.size_alloc, World.size_setCell, size_put, World.size_drew] at hs))
          go_wp2_with ((go_at_call 50; refine (ref11_Old l _ cap _ _ _ (hS _ (by (repeat' (first | exact Below.refl _ _ | assumption | refine below_drew ?_ | refine below_drewN ?_ _ | refine below_alloc ?_ _ | refine below_call ?_ (by assumption) | refine below_put ?_ _ _ _ (by first | omega | (simp; omega)) | refine below_setCell ?_ _ _ (by first | (simp; omega) | (simp; done) | omega) | refine below_putObj ?_ _ _ (by first | omega | (simp; omega) | (simp; done)))))) hl).mono ?_; rintro e w1 ⟨rfl, hb⟩; have ha := below_rule hb; have hs := hb.size; (try simp only [World.size_alloc, World.size_setCell, size_put, World.size_drew] at hs)))
          all_goals
            go_ret
            exact ⟨ret_int (by rw [H.out]; simp [*]), by (repeat' (first | exact Below.refl _ _ | assumption | refine below_drew ?_ | refine below_drewN ?_ _ | refine below_alloc ?_ _ | refine below_call ?_ (by assumption) | refine below_put ?_ _ _ _ (by first | omega | (simp; omega)) | refine below_setCell ?_ _ _ (by first | (simp; omega) | (simp; done) | omega) | refine below_putObj ?_ _ _ (by first | omega | (simp; omega) | (simp; done))))⟩
    · have he : ¬ x.epoch < lastEpoch l := by rw [lastEpoch_nil hlen]; omega
      rw [mayErr_rest hf he]
      have hr : mayRest l x = if decide (x.entry.kind = 1) && l.any (isOld x.entry.client x.entry.seq) then 101 else 0 := by unfold mayRest; rw [decide_eq_false (by omega)]; rfl
      have hz : ((l.length : Int) == 2000) = false := by simp; omega
      have H := Lib.hid hr; clear hr hf he
      go_enter Try.func20, Try.ntmps20
      go_wp2_with (first | (go_at_call 18; refine (ref11_Right l a cap _ (hS _ (by (repeat' (first | exact Below.refl _ _ | assumption | refine below_drew ?_ | refine below_drewN ?_ _ | refine below_alloc ?_ _ | refine below_call ?_ (by assumption) | refine below_put ?_ _ _ _ (by first | omega | (simp; omega)) | refine below_setCell ?_ _ _ (by first | (simp; omega) | (simp; done) | omega) | refine below_putObj ?_ _ _ (by first | omega | (simp; omega) | (simp; done)))))) hl).mono ?_; rintro e w1 ⟨rfl, hb⟩; have ha := below_rule hb; have hs := hb.size; (try simp only [World.size_alloc, World.size_setCell, size_put, World.size_drew] at hs)) | (go_at_call 49; refine (ref08_RightItem _ _).mono ?_; rintro e w1 ⟨rfl, hb⟩; have ha := below_rule hb; have hs := hb.size; (try simp only [World.size_alloc, World.size_setCell, size_put, World.size_drew] at hs)))
      (refine wp_region_ext (by kernel_rfl) (by kernel_rfl) ?_; (repeat (go_big_quiet_step (fail))); refine wpQuiet_nil ?_; intro w1 hw'; have hb := ext_below hw'; clear hw'; have ha := below_rule hb; have hs := hb.size; (try simp only [World.size_alloc, World.size_setCell, size_put, World.size_drew] at hs))
      go_wp2_with ((go_at_call 50; refine (ref11_Old l _ cap _ _ _ (hS _ (by (repeat' (first | exact Below.refl _ _ | assumption | refine below_drew ?_ | refine below_drewN ?_ _ | refine below_alloc ?_ _ | refine below_call ?_ (by assumption) | refine below_put ?_ _ _ _ (by first | omega | (simp; omega)) | refine below_setCell ?_ _ _ (by first | (simp; omega) | (simp; done) | omega) | refine below_putObj ?_ _ _ (by first | omega | (simp; omega) | (simp; done)))))) hl).mono ?_; rintro e w1 ⟨rfl, hb⟩; have ha := below_rule hb; have hs := hb.size; (try simp only [World.size_alloc, World.size_setCell, size_put, World.size_drew] at hs)))
      all_goals
        go_ret
        exact ⟨ret_int (by rw [H.out]; simp [*]), by (repeat' (first | exact Below.refl _ _ | assumption | refine below_drew ?_ | refine below_drewN ?_ _ | refine below_alloc ?_ _ | refine below_call ?_ (by assumption) | refine below_put ?_ _ _ _ (by first | omega | (simp; omega)) | refine below_setCell ?_ _ _ (by first | (simp; omega) | (simp; done) | omega) | refine below_putObj ?_ _ _ (by first | omega | (simp; omega) | (simp; done))))⟩
end Go.Proofs.Ytgnebofjfmbccaa
