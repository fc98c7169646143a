/-
  The document's rows: finds() is true.
-/
import Derived.Test.YtgnebofjfmbccaaH
import Derived.Test.YtgnebofjfmbccaaQ
import Derived.Deep.RegionHeld3
import Derived.Sort.AtCall
set_option linter.all false
namespace Go.Proofs.Ytgnebofjfmbccaa
open Go.RowKit
def finds3 : List Item := [law_user 1 1, law_user 2 5, law_user 1 3]
def finds1 : List Item := [{ epoch := 2, entry := { kind := 1, client := 3, seq := 1, text := Entry.zero.text, head := Entry.zero.head, claim := Entry.zero.claim } }]
theorem finds_a : posFrom (isSeq 1 3) 0 finds3 = some 2 := by decide
theorem finds_b : posFrom (isSeq 1 2) 0 finds3 = none := by decide
theorem finds_c : logErr finds3 = 0 := by decide
theorem finds_d : mayErr finds3 (law_user 1 3) = 101 := by decide
theorem finds_e : mayErr finds3 (law_user 1 4) = 0 := by decide
theorem finds_f : mayErr finds1 (law_user 1 1) = 102 := by decide
theorem finds_g : logErr [Item.zero] = 100 := by decide
abbrev L3 : List Item := [law_user 1 1, law_user 2 5, law_user 1 3]
abbrev late : Item := { epoch := 2, entry := (law_user 3 1).entry }
theorem check_L3 (b : Nat) (w : World) (h : w.at_ b = some (.cells (rowsOf encItem [law_user 1 1, law_user 2 5, law_user 1 3]).toArray 35)) : Calls Try.prog 14 #[.slice (some ⟨b, 0, none⟩) 3 3] w (Res (.int .i64 0) w) := by
  have := history_Check L3 (some ⟨b, 0, none⟩) 3 w (sliceAt_rows encItem_length h) (by decide)
  rwa [show logErr L3 = 0 by decide] at this
theorem check_zero (b : Nat) (w : World) (h : w.at_ b = some (.cells (rowsOf encItem [Item.zero]).toArray 35)) : Calls Try.prog 14 #[.slice (some ⟨b, 0, none⟩) 1 1] w (Res (.int .i64 100) w) := by
  have := history_Check [Item.zero] (some ⟨b, 0, none⟩) 1 w (sliceAt_rows encItem_length h) (by decide)
  rwa [show logErr [Item.zero] = 100 by decide] at this
theorem may_L3 (b : Nat) (x : Item) (w : World) (h : w.at_ b = some (.cells (rowsOf encItem [law_user 1 1, law_user 2 5, law_user 1 3]).toArray 35)) : Calls Try.prog 19 #[.slice (some ⟨b, 0, none⟩) 3 3, .agg (encItem x).toArray] w (Res (.int .i64 (mayErr [law_user 1 1, law_user 2 5, law_user 1 3] x)) w) :=
  history_May L3 (some ⟨b, 0, none⟩) 3 x w (sliceAt_rows encItem_length h) (by decide)
theorem may_late (b : Nat) (w : World) (h : w.at_ b = some (.cells (rowsOf encItem [{ epoch := 2, entry := (law_user 3 1).entry }]).toArray 35)) : Calls Try.prog 19 #[.slice (some ⟨b, 0, none⟩) 1 1, .agg (encItem (law_user 1 1)).toArray] w (Res (.int .i64 102) w) := by
  have := history_May [late] (some ⟨b, 0, none⟩) 1 (law_user 1 1) w (sliceAt_rows encItem_length h) (by decide)
  rwa [show mayErr [late] (law_user 1 1) = 102 by decide] at this
theorem find_L3 (b : Nat) (c s : Int) (w : World) (h : w.at_ b = some (.cells (rowsOf encItem [law_user 1 1, law_user 2 5, law_user 1 3]).toArray 35)) : Calls Try.prog 15 #[.slice (some ⟨b, 0, none⟩) 3 3, .int .i64 c, .int .i64 s] w
    (Res2 (.int .i64 (foundAt (posFrom (isSeq c s) 0 [law_user 1 1, law_user 2 5, law_user 1 3]))) (.bool (posFrom (isSeq c s) 0 [law_user 1 1, law_user 2 5, law_user 1 3]).isSome) w) :=
  history_Find L3 (some ⟨b, 0, none⟩) 3 c s w (sliceAt_rows encItem_length h) (by decide)
structure Since (W w' : World) : Prop where
  out : Below W.heap.size W w'
set_option maxRecDepth 20000 in
set_option maxHeartbeats 4000000 in
theorem estreatlaw11_finds (w : World) : Calls Try.prog 17 #[] w (Res (.bool true) w) := by
  have e1 : foundAt (posFrom (isSeq 1 3) 0 [law_user 1 1, law_user 2 5, law_user 1 3]) = 2 := by decide
  have e2 : (posFrom (isSeq 1 3) 0 [law_user 1 1, law_user 2 5, law_user 1 3]).isSome = true := by decide
  have e3 : foundAt (posFrom (isSeq 1 2) 0 [law_user 1 1, law_user 2 5, law_user 1 3]) = 0 := by decide
  have e4 : (posFrom (isSeq 1 2) 0 [law_user 1 1, law_user 2 5, law_user 1 3]).isSome = false := by decide
  go_enter Try.func17, Try.ntmps17
  go_wp2_with ((go_at_call 48; refine (estreatlaw11_user _ _ _).mono ?_; rintro e w1 ⟨rfl, hb⟩; have ha := below_rule hb; have hs := hb.size; (try simp only [World.size_alloc, World.size_setCell, size_put, World.size_drew] at hs)))
  obtain ⟨bL, hbL⟩ : ∃ b, w1.heap.size = b := ⟨_, rfl⟩
  have rL0 : (w1.alloc (.cells (rowsOf encItem [law_user 1 1, law_user 2 5, law_user 1 3]).toArray 35)).at_ bL = some (.cells (rowsOf encItem [law_user 1 1, law_user 2 5, law_user 1 3]).toArray 35) := at_alloc_new hbL.symm
  rw [hbL]
  (go_at_call 15; refine (find_L3 _ _ _ _ ?_).mono ?_; (· (repeat' (first | assumption | exact at_alloc_new (by simp; done) | refine at_alloc_old ?_ _ | refine setCell_other (by omega) ?_ | rw [at_drew] | refine at_below (by assumption) ?_))); rintro e w1 ⟨rfl, hb⟩; have ha := below_rule hb; have hs := hb.size; (try simp only [World.size_alloc, World.size_setCell, size_put, World.size_drew] at hs))
  go_wp2_with (first | (go_at_call 48; refine (estreatlaw11_user _ _ _).mono ?_; rintro e w1 ⟨rfl, hb⟩; have ha := below_rule hb; have hs := hb.size; (try simp only [World.size_alloc, World.size_setCell, size_put, World.size_drew] at hs)) | (go_at_call 15; refine (find_L3 _ _ _ _ ?_).mono ?_; (· (repeat' (first | assumption | exact at_alloc_new (by simp; done) | refine at_alloc_old ?_ _ | refine setCell_other (by omega) ?_ | rw [at_drew] | refine at_below (by assumption) ?_))); rintro e w1 ⟨rfl, hb⟩; have ha := below_rule hb; have hs := hb.size; (try simp only [World.size_alloc, World.size_setCell, size_put, World.size_drew] at hs)))
  obtain ⟨bT, hbT⟩ : ∃ b, w1.heap.size = b := ⟨_, rfl⟩
  generalize hW : World.alloc w1 _ = W
  have hbW : Below w.heap.size w W := by rw [← hW]; (repeat' (first | exact Below.refl _ _ | assumption | refine below_drew ?_ | refine below_drewN ?_ _ | refine below_alloc ?_ _ | refine below_call ?_ (by assumption) | refine below_put ?_ _ _ _ (by first | omega | (simp; omega)) | refine below_setCell ?_ _ _ (by first | (simp; omega) | (simp; done) | omega) | refine below_putObj ?_ _ _ (by first | omega | (simp; omega) | (simp; done))))
  have rL : W.at_ bL = some (.cells (rowsOf encItem [law_user 1 1, law_user 2 5, law_user 1 3]).toArray 35) := by rw [← hW]; (repeat' (first | assumption | exact at_alloc_new (by simp; done) | refine at_alloc_old ?_ _ | refine setCell_other (by omega) ?_ | rw [at_drew] | refine at_below (by assumption) ?_))
  have rT : W.at_ bT = some (.cells (encItem { epoch := 2, entry := (law_user 3 1).entry }).toArray 35) := by rw [← hW]; exact at_alloc_new hbT.symm
  rw [hbT]
  clear hW hbT hbL rL0
  have f1 : logErr [law_user 1 1, law_user 2 5, law_user 1 3] = 0 := by decide
  have f2 : mayErr [law_user 1 1, law_user 2 5, law_user 1 3] (law_user 1 3) = 101 := by decide
  have f3 : mayErr [law_user 1 1, law_user 2 5, law_user 1 3] (law_user 1 4) = 0 := by decide
  have f4 : mayErr [{ epoch := 2, entry := (law_user 3 1).entry }] (law_user 1 1) = 102 := by decide
  have f5 : logErr [Item.zero] = 100 := by decide
  go_region_held3? (fun w' => Since W w' ∧ w'.at_ bL = some (.cells (rowsOf encItem [law_user 1 1, law_user 2 5, law_user 1 3]).toArray 35) ∧ w'.at_ bT = some (.cells (encItem { epoch := 2, entry := (law_user 3 1).entry }).toArray 35))
    ((go_split_ands; refine ⟨by (refine Since.mk ?_; (repeat' (first | exact Below.refl _ _ | exact Since.out (by assumption) | refine below_drew ?_ | refine below_drewN ?_ _ | refine below_alloc ?_ _ | refine below_call ?_ (by assumption) | refine below_put ?_ _ _ _ (by first | omega | (simp; omega)) | refine below_setCell ?_ _ _ (by first | (simp; omega) | (simp; done) | omega) | refine below_putObj ?_ _ _ (by first | omega | (simp; omega) | (simp; done))))), by (repeat' (first | assumption | exact at_alloc_new (by simp; done) | refine at_alloc_old ?_ _ | refine setCell_other (by omega) ?_ | rw [at_drew] | refine at_below (by assumption) ?_)), by (repeat' (first | assumption | exact at_alloc_new (by simp; done) | refine at_alloc_old ?_ _ | refine setCell_other (by omega) ?_ | rw [at_drew] | refine at_below (by assumption) ?_))⟩))
    ((go_split_ands; first | (go_at_call 48; refine (estreatlaw11_user _ _ _).mono ?_; rintro e w1 ⟨rfl, hb⟩; have ha := below_rule hb; have hs := hb.size; (try simp only [World.size_alloc, World.size_setCell, size_put, World.size_drew] at hs)) | (go_at_call_has 14 bL; refine (check_L3 _ _ ?_).mono ?_; (· (repeat' (first | assumption | exact at_alloc_new (by simp; done) | refine at_alloc_old ?_ _ | refine setCell_other (by omega) ?_ | rw [at_drew] | refine at_below (by assumption) ?_))); rintro e w1 ⟨rfl, hb⟩; have ha := below_rule hb; have hs := hb.size; (try simp only [World.size_alloc, World.size_setCell, size_put, World.size_drew] at hs)) | (go_at_call 14; refine (check_zero _ _ ?_).mono ?_; (· (repeat' (first | assumption | exact at_alloc_new (by simp; done) | refine at_alloc_old ?_ _ | refine setCell_other (by omega) ?_ | rw [at_drew] | refine at_below (by assumption) ?_))); rintro e w1 ⟨rfl, hb⟩; have ha := below_rule hb; have hs := hb.size; (try simp only [World.size_alloc, World.size_setCell, size_put, World.size_drew] at hs)) | (go_at_call_has 19 bL; refine (may_L3 _ _ _ ?_).mono ?_; (· (repeat' (first | assumption | exact at_alloc_new (by simp; done) | refine at_alloc_old ?_ _ | refine setCell_other (by omega) ?_ | rw [at_drew] | refine at_below (by assumption) ?_))); rintro e w1 ⟨rfl, hb⟩; have ha := below_rule hb; have hs := hb.size; (try simp only [World.size_alloc, World.size_setCell, size_put, World.size_drew] at hs)) | (go_at_call 19; refine (may_late _ _ ?_).mono ?_; (· (repeat' (first | assumption | exact at_alloc_new (by simp; done) | refine at_alloc_old ?_ _ | refine setCell_other (by omega) ?_ | rw [at_drew] | refine at_below (by assumption) ?_))); rintro e w1 ⟨rfl, hb⟩; have ha := below_rule hb; have hs := hb.size; (try simp only [World.size_alloc, World.size_setCell, size_put, World.size_drew] at hs))))
  all_goals
    go_wp2
    go_ret
    go_split_ands
    exact ⟨rfl, below_call hbW (Since.out (by assumption))⟩
end Go.Proofs.Ytgnebofjfmbccaa
