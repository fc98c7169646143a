/-
  The reference of a log: right, find, old, may, same; which logs are not looked at.
-/
import Derived.Test.YtgnebofjfmbccaaC
import Derived.Test.YtgnebofjfmbccaaS
set_option linter.all false
namespace Go.Proofs.Ytgnebofjfmbccaa
open Go.RowKit
def bigItem (x : Item) : Bool := decide (1000 < x.entry.text.size)
def bigLog (l : List Item) : Bool := decide (60 < l.length) || l.any bigItem
theorem any_drop {α : Type} (p : α → Bool) (l : List α) (k : Nat) (hk : k < l.length) : (l.drop k).any p = (p l[k] || (l.drop (k + 1)).any p) := by
  rw [List.drop_eq_getElem_cons hk]; rfl
set_option maxHeartbeats 1000000 in
theorem ref11_Big (l : List Item) (a : Option Addr) (cap : Nat) (w : World) (h : SliceAt encItem 110 w a l) (hl : l.length ≤ 1000000000000) :
    Calls Try.prog 12 #[.slice a l.length cap] w fun e w' => e = .returned (.bool (bigLog l)) ∧ w = w' := by
  by_cases h60 : 60 < l.length
  · go_enter Try.func12, Try.ntmps12
    go_wp2
    go_ret
    exact ⟨ret_bool (by simp [bigLog, h60]), rfl⟩
  go_enter Try.func12, Try.ntmps12
  go_wp2
  go_loop [3] (fun i => ∃ (k : Nat), k ≤ l.length ∧ i = .int .i64 k ∧ bigLog l = (l.drop k).any bigItem) (fun i => l.length - (intOf i).toNat)
  case atStart => exact ⟨0, Nat.zero_le _, rfl, by simp [bigLog, h60]⟩
  case round =>
    obtain ⟨k, hk, rfl, hd⟩ := hrel
    by_cases hlt : k < l.length
    · obtain ⟨b, off, rfl, hbl, hrow⟩ := h.get hlt
      obtain ⟨c0, c1, c2, c3, c4, c5, c6⟩ := item_cells hrow
      have H := Lib.hid hd; clear hd
      go_wp2
      all_goals
        have hd := H.out
        rw [any_drop _ l k hlt] at hd
        first
          | (go_round
             case rel => exact ⟨k + 1, by omega, by go_num, by rw [hd]; unfold bigItem; rw [decide_eq_false (by omega), Bool.false_or]⟩
             case measure => simp [intOf]; omega)
          | (go_ret
             exact ⟨ret_bool (by rw [hd]; unfold bigItem; rw [decide_eq_true (by omega), Bool.true_or]), rfl⟩)
    · have hkl : k = l.length := by omega
      subst hkl
      simp only [List.drop_length, List.any_nil] at hd
      have H := Lib.hid hd; clear hd
      go_wp2
      go_ret
      exact ⟨ret_bool H.out.symm, rfl⟩
def epochAt (l : List Item) (k : Nat) : Int := if h : 0 < k ∧ k ≤ l.length then l[k - 1].epoch else 0
theorem Item.ok_epoch {x : Item} (h : x.ok = true) : 1 ≤ x.epoch := by
  unfold Item.ok inR at h
  simp only [Bool.and_eq_true, decide_eq_true_eq] at h
  exact h.1.1
set_option maxHeartbeats 1000000 in
theorem ref11_Right (l : List Item) (a : Option Addr) (cap : Nat) (w : World) (h : SliceAt encItem 110 w a l) (hl : l.length ≤ 1000000000000) :
    Calls Try.prog 18 #[.slice a l.length cap] w (Res (.bool (logOk l)) w) := by
  by_cases h2 : 2000 < l.length
  · go_enter Try.func18, Try.ntmps18
    go_wp2
    go_ret
    exact ⟨ret_bool (by simp [logOk]; omega), by (repeat' (first | exact Below.refl _ _ | assumption | refine below_drew ?_ | refine below_drewN ?_ _ | refine below_alloc ?_ _ | refine below_call ?_ (by assumption) | refine below_put ?_ _ _ _ (by first | omega | (simp; omega)) | refine below_setCell ?_ _ _ (by first | (simp; omega) | (simp; done) | omega) | refine below_putObj ?_ _ _ (by first | omega | (simp; omega) | (simp; done))))⟩
  go_enter Try.func18, Try.ntmps18
  go_wp2
  go_loopw [3] (fun i wr => ∃ (k : Nat), k ≤ l.length ∧ i = .int .i64 k ∧ okFrom 0 l = okFrom (epochAt l k) (l.drop k) ∧ Below w.heap.size w wr) (fun i _ => l.length - (intOf i).toNat)
  case atStart => exact ⟨0, Nat.zero_le _, rfl, rfl, Below.refl _ _⟩
  case round =>
    obtain ⟨k, hk, rfl, hd, hb0⟩ := hrel
    by_cases hlt : k < l.length
    · obtain ⟨b, off, ha, hbl, hrow⟩ := (h.below hb0).get hlt
      subst ha
      rw [okFrom_drop l k hlt] at hd
      have he : epochAt l (k + 1) = l[k].epoch := by unfold epochAt; rw [dif_pos ⟨by omega, by omega⟩]; rfl
      rw [← he] at hd
      have H := Lib.hid hd; clear hd
      have HE := Lib.hid he; clear he
      cases hok : l[k].ok
      · go_wp2
        (refine wp_region_ext (by kernel_rfl) (by kernel_rfl) ?_; (repeat (go_big_quiet_step ((go_at_call 49; exact ext_res (ref08_RightItem _ _))))); refine wpQuiet_nil ?_; intro w1 hw'; have hb := ext_below hw'; clear hw'; have ha := below_rule hb; have hs := hb.size; (try simp only [World.size_alloc, World.size_setCell, size_put, World.size_drew] at hs))
        go_wp2
        go_ret
        exact ⟨ret_bool (by simp [logOk, H.out, hok]), by (repeat' (first | exact Below.refl _ _ | assumption | refine below_drew ?_ | refine below_drewN ?_ _ | refine below_alloc ?_ _ | refine below_call ?_ (by assumption) | refine below_put ?_ _ _ _ (by first | omega | (simp; omega)) | refine below_setCell ?_ _ _ (by first | (simp; omega) | (simp; done) | omega) | refine below_putObj ?_ _ _ (by first | omega | (simp; omega) | (simp; done))))⟩
      · by_cases hk0 : 0 < k
        · have hrow' : rowOf (wr.at_ b) (off + (k - 1) * 110) 110 = some (encItem l[k - 1]) := by
            rcases h.below hb0 with h0 | ⟨b', off', e, _, h'⟩
            · subst h0; simp at hlt
            · simp only [Option.some.injEq, Addr.mk.injEq] at e
              obtain ⟨rfl, rfl, _⟩ := e
              exact h' (k - 1) _ (List.getElem?_eq_getElem (by omega))
          obtain ⟨c0, -⟩ := item_cells hrow
          obtain ⟨c0', -⟩ := item_cells hrow'
          have hkk : epochAt l k = l[k - 1].epoch := by unfold epochAt; rw [dif_pos ⟨hk0, by omega⟩]
          have HK := Lib.hid hkk; clear hkk
          by_cases hgt : l[k].epoch < l[k - 1].epoch
          · go_wp2
            (refine wp_region_ext (by kernel_rfl) (by kernel_rfl) ?_; (repeat (go_big_quiet_step ((go_at_call 49; exact ext_res (ref08_RightItem _ _))))); refine wpQuiet_nil ?_; intro w1 hw'; have hb := ext_below hw'; clear hw'; have ha := below_rule hb; have hs := hb.size; (try simp only [World.size_alloc, World.size_setCell, size_put, World.size_drew] at hs))
            go_wp2
            go_ret
            exact ⟨ret_bool (by unfold logOk; rw [H.out, HE.out, HK.out, decide_eq_false (by omega)]; simp), by (repeat' (first | exact Below.refl _ _ | assumption | refine below_drew ?_ | refine below_drewN ?_ _ | refine below_alloc ?_ _ | refine below_call ?_ (by assumption) | refine below_put ?_ _ _ _ (by first | omega | (simp; omega)) | refine below_setCell ?_ _ _ (by first | (simp; omega) | (simp; done) | omega) | refine below_putObj ?_ _ _ (by first | omega | (simp; omega) | (simp; done))))⟩
          · go_wp2
            (refine wp_region_ext (by kernel_rfl) (by kernel_rfl) ?_; (repeat (go_big_quiet_step ((go_at_call 49; exact ext_res (ref08_RightItem _ _))))); refine wpQuiet_nil ?_; intro w1 hw'; have hb := ext_below hw'; clear hw'; have ha := below_rule hb; have hs := hb.size; (try simp only [World.size_alloc, World.size_setCell, size_put, World.size_drew] at hs))
            go_wp2
            go_roundw
            case rel => exact ⟨k + 1, by omega, by go_num, by rw [H.out, HE.out, HK.out, hok, decide_eq_true (by omega)]; rfl, by (repeat' (first | exact Below.refl _ _ | assumption | refine below_drew ?_ | refine below_drewN ?_ _ | refine below_alloc ?_ _ | refine below_call ?_ (by assumption) | refine below_put ?_ _ _ _ (by first | omega | (simp; omega)) | refine below_setCell ?_ _ _ (by first | (simp; omega) | (simp; done) | omega) | refine below_putObj ?_ _ _ (by first | omega | (simp; omega) | (simp; done))))⟩
            case measure => simp [intOf]; omega
        · go_wp2
          (refine wp_region_ext (by kernel_rfl) (by kernel_rfl) ?_; (repeat (go_big_quiet_step ((go_at_call 49; exact ext_res (ref08_RightItem _ _))))); refine wpQuiet_nil ?_; intro w1 hw'; have hb := ext_below hw'; clear hw'; have ha := below_rule hb; have hs := hb.size; (try simp only [World.size_alloc, World.size_setCell, size_put, World.size_drew] at hs))
          go_wp2
          go_roundw
          case rel => exact ⟨k + 1, by omega, by go_num, by rw [H.out, hok, show epochAt l k = 0 by unfold epochAt; rw [dif_neg (by omega)], HE.out, decide_eq_true (by have := Item.ok_epoch hok; omega)]; rfl, by (repeat' (first | exact Below.refl _ _ | assumption | refine below_drew ?_ | refine below_drewN ?_ _ | refine below_alloc ?_ _ | refine below_call ?_ (by assumption) | refine below_put ?_ _ _ _ (by first | omega | (simp; omega)) | refine below_setCell ?_ _ _ (by first | (simp; omega) | (simp; done) | omega) | refine below_putObj ?_ _ _ (by first | omega | (simp; omega) | (simp; done))))⟩
          case measure => simp [intOf]; omega
    · have hkl : k = l.length := by omega
      subst hkl
      simp only [List.drop_length, okFrom] at hd
      go_wp2
      go_ret
      exact ⟨ret_bool (by simp [logOk, hd]; omega), by (repeat' (first | exact Below.refl _ _ | assumption | refine below_drew ?_ | refine below_drewN ?_ _ | refine below_alloc ?_ _ | refine below_call ?_ (by assumption) | refine below_put ?_ _ _ _ (by first | omega | (simp; omega)) | refine below_setCell ?_ _ _ (by first | (simp; omega) | (simp; done) | omega) | refine below_putObj ?_ _ _ (by first | omega | (simp; omega) | (simp; done))))⟩
end Go.Proofs.Ytgnebofjfmbccaa
