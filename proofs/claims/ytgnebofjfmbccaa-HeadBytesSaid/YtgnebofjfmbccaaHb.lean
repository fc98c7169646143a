/-
  head.Put, ref07.Put: a head's bytes, or why it has none.
-/
import Derived.Test.YtgnebofjfmbccaaHa
import Derived.Test.YtgnebofjfmbccaaPe
set_option linter.all false
namespace Go.Proofs.Ytgnebofjfmbccaa
open Go.RowKit
def headParts (h : Head) : List (List UInt8) := [numB h.region, numB h.epoch, numB h.size, h.root.l, numB h.tick]
def headBytes (h : Head) : List UInt8 := rowFrom 0 (headParts h)
def headOut (h : Head) : List UInt8 := if h.ok then headBytes h else []
theorem headParts_len (h : Head) : ∀ d ∈ headParts h, d.length ≤ 65536 := by
  intro d hd
  have h1 := numB_len h.region
  have h2 := numB_len h.epoch
  have h3 := numB_len h.size
  have h4 := numB_len h.tick
  have h5 := h.root.len
  simp only [headParts, List.mem_cons, List.not_mem_nil, or_false] at hd
  rcases hd with rfl | rfl | rfl | rfl | rfl <;> omega
theorem headBytes_len (h : Head) : (headBytes h).length ≤ 1000 := by
  have h1 := numB_len h.region
  have h2 := numB_len h.epoch
  have h3 := numB_len h.size
  have h4 := numB_len h.tick
  have h5 := h.root.len
  simp [headBytes, headParts, rowFrom, fieldB, headB]
  omega
theorem lay_head (h : Head) : layA [] 0 (fldsFrom 0 (headParts h)) = (headBytes h, 0) := by
  have := layA_row (headParts h) 0 [] (by simp [headParts]) (headParts_len h)
  simpa [headBytes] using this
theorem headCheck_ok {h : Head} (hok : h.ok = true) (w : World) : Calls Try.prog 29 #[.agg (encHead h).toArray] w (Res (.int .i64 0) w) := by
  have := head_Check h w
  rw [show h.err = 0 by simp [Head.err, hok]] at this; exact this
theorem headCheck_no {h : Head} (hok : h.ok = false) (w : World) : Calls Try.prog 29 #[.agg (encHead h).toArray] w (Res (.int .i64 70) w) := by
  have := head_Check h w
  rw [show h.err = 70 by simp [Head.err, hok]] at this; exact this
set_option maxRecDepth 20000 in
set_option maxHeartbeats 2000000 in
theorem head_Put_ok {h : Head} (hok : h.ok = true) (w : World) : Calls Try.prog 27 #[.agg (encHead h).toArray] w (ResBE (headBytes h) 0 w) := by
  go_enter Try.func27, Try.ntmps27
  go_wp2_with ((go_at_call 29; refine (headCheck_ok hok _).mono ?_; rintro e w1 ⟨rfl, hb⟩; have ha := below_rule hb; have hs := hb.size; (try simp only [World.size_alloc, World.size_setCell, size_put, World.size_drew] at hs)))
  generalize hW : World.alloc w1 _ = W
  have hbW : Below w.heap.size w W := by rw [← hW]; (repeat' (first | exact Below.refl _ _ | assumption | refine below_drew ?_ | refine below_drewN ?_ _ | refine below_alloc ?_ _ | refine below_call ?_ (by assumption) | refine below_put ?_ _ _ _ (by first | omega | (simp; omega)) | refine below_setCell ?_ _ _ (by first | (simp; omega) | (simp; done) | omega) | refine below_putObj ?_ _ _ (by first | omega | (simp; omega) | (simp; done))))
  have rC : W.at_ w.heap.size = some (.cells (encHead h).toArray 27) := by rw [← hW]; (repeat' (first | assumption | exact at_alloc_new (by simp; done) | refine at_alloc_old ?_ _ | refine setCell_other (by omega) ?_ | rw [at_drew] | refine at_below (by assumption) ?_))
  have hp : W.at_ w1.heap.size = some (.cells #[.slice none 0 0] 100) := by rw [← hW]; (repeat' (first | assumption | exact at_alloc_new (by simp; done) | refine at_alloc_old ?_ _ | refine setCell_other (by omega) ?_ | rw [at_drew] | refine at_below (by assumption) ?_))
  have hlW := at_lt hp
  clear hW ha hb
  generalize w1.heap.size = p at *
  have hown : OwnSl encS 1 9 W (p + 1) (.slice none 0 0) ([] : List (List UInt8)) := OwnSl.nil _ _ _ _ _
  have hM : Moves (fun k => k = p ∨ p + 1 ≤ k) W W := Moves.refl _ _
  (go_at_call 61; refine (head_n p (p + 1) _ _ _ _ hp hown (by omega) (by first | omega | (have := hM.size; omega)) (by simp)).mono ?_; rintro e w2 ⟨⟨u, rfl⟩, v, hp, hown, hm⟩; have rC := hm.at rC (by omega); have hM := hM.trans hm; have hms := hm.size)
  go_wp2_with (first | (go_at_call 61; refine (head_n p (p + 1) _ _ _ _ hp hown (by omega) (by first | omega | (have := hM.size; omega)) (by simp)).mono ?_; rintro e w2 ⟨⟨u, rfl⟩, v, hp, hown, hm⟩; have rC := hm.at rC (by omega); have hM := hM.trans hm; have hms := hm.size) | (go_at_call 62; refine (head_s p (p + 1) _ _ _ _ hp hown (by omega) (by first | omega | (have := hM.size; omega)) (by simp)).mono ?_; rintro e w2 ⟨⟨u, rfl⟩, v, hp, hown, hm⟩; have rC := hm.at rC (by omega); have hM := hM.trans hm; have hms := hm.size) | (obtain ⟨av, capv, rfl, hslv, hcv, hbv⟩ := hown.slice encS_length; go_at_call 63; refine (head_bytes p _ _ _ _ hp hslv (by simp)).mono ?_; rintro e w4 ⟨v4, rfl, hown4, hb4⟩))
  go_ret2
  have hl : layA [] 0 (fldsFrom 0 ([] ++ [numB h.region] ++ [numB h.epoch] ++ [numB h.size] ++ [h.root.l] ++ [numB h.tick])) = (headBytes h, 0) := lay_head h
  rw [hl] at hown4
  have hsM := hM.size
  exact ⟨_, rfl, (OwnSl.base (OwnB.sl hown4) (by omega)).b, (hM.call hb4).below hbW (fun k hk => by omega)⟩
set_option maxRecDepth 20000 in
theorem head_Put_no {h : Head} (hok : h.ok = false) (w : World) : Calls Try.prog 27 #[.agg (encHead h).toArray] w (ResBE [] 70 w) := by
  go_enter Try.func27, Try.ntmps27
  go_wp2_with ((go_at_call 29; refine (headCheck_no hok _).mono ?_; rintro e w1 ⟨rfl, hb⟩; have ha := below_rule hb; have hs := hb.size; (try simp only [World.size_alloc, World.size_setCell, size_put, World.size_drew] at hs)))
  go_ret2
  exact ⟨_, rfl, ownB_nil _ _, by (repeat' (first | exact Below.refl _ _ | assumption | refine below_drew ?_ | refine below_drewN ?_ _ | refine below_alloc ?_ _ | refine below_call ?_ (by assumption) | refine below_put ?_ _ _ _ (by first | omega | (simp; omega)) | refine below_setCell ?_ _ _ (by first | (simp; omega) | (simp; done) | omega) | refine below_putObj ?_ _ _ (by first | omega | (simp; omega) | (simp; done))))⟩
theorem head_Put (h : Head) (w : World) : Calls Try.prog 27 #[.agg (encHead h).toArray] w (ResBE (headOut h) h.err w) := by
  cases hok : h.ok
  · rw [show headOut h = [] by simp [headOut, hok], show h.err = 70 by simp [Head.err, hok]]
    exact head_Put_no hok w
  · rw [show headOut h = headBytes h by simp [headOut, hok], show h.err = 0 by simp [Head.err, hok]]
    exact head_Put_ok hok w
theorem row_head (h : Head) (b : Nat) (w : World) (hb : w.at_ b = some (.cells #[.string (strOf (numB h.region)), .string (strOf (numB h.epoch)), .string (strOf (numB h.size)), .string (strOf h.root.l), .string (strOf (numB h.tick))] 9)) :
    Calls Try.prog 93 #[.slice (some ⟨b, 0, none⟩) 5 5] w (ResB (headBytes h) w) := by
  refine ref07_Row (headParts h) (some ⟨b, 0, none⟩) 5 w (sliceAt_rows (xs := headParts h) encS_length (t := 9) (fr := (0, 0)) hb) (by simp [headParts]) ?_ (by have := headBytes_len h; unfold headBytes at this; omega)
  intro d hd
  have := headParts_len h d hd
  omega
theorem head_root {h : Head} {W : World} {b : Nat} {t : TypeId} (hb : W.at_ b = some (.cells (encHead h).toArray t)) : W.rangeAt b 3 (encDig h.root) := by
  refine rangeAt_of_row (n := 32) ?_
  rw [hb, rowOf_cells, if_pos (by rw [ln_encHead]; omega), encHead_root]
set_option maxRecDepth 20000 in
set_option maxHeartbeats 2000000 in
theorem ref07_Bytes (h : Head) (w : World) : Calls Try.prog 65 #[.agg (encHead h).toArray] w (ResB (headBytes h) w) := by
  go_enter Try.func65, Try.ntmps65
  go_wp2_with fail
  generalize hW : World.alloc w _ = W
  have hbW : Below w.heap.size w W := by rw [← hW]; (repeat' (first | exact Below.refl _ _ | assumption | refine below_drew ?_ | refine below_drewN ?_ _ | refine below_alloc ?_ _ | refine below_call ?_ (by assumption) | refine below_put ?_ _ _ _ (by first | omega | (simp; omega)) | refine below_setCell ?_ _ _ (by first | (simp; omega) | (simp; done) | omega) | refine below_putObj ?_ _ _ (by first | omega | (simp; omega) | (simp; done))))
  have rT : W.at_ w.heap.size = some (.cells (encHead h).toArray 27) := by rw [← hW]; exact at_alloc_new rfl
  clear hW
  have hu := Try.underlying25
  have hi : (Try.prog.info? 25).map (·.size) = some (encDig h.root).length := by rw [encDig_length]; kernel_rfl
  go_region_held3 (fun w' => Since_ W w' ∧ w'.at_ w.heap.size = some (.cells (encHead h).toArray 27) ∧ w'.rangeAt w.heap.size 3 (encDig h.root))
    ((go_split_ands; refine ⟨by (refine Since_.mk ?_; (repeat' (first | exact Below.refl _ _ | exact Since_.out (by assumption) | refine below_drew ?_ | refine below_alloc ?_ _ | refine below_call ?_ (by assumption)))), by (repeat' (first | assumption | exact at_alloc_new (by simp; done) | refine at_alloc_old ?_ _ | refine setCell_other (by omega) ?_ | rw [at_drew] | refine at_below (by assumption) ?_)), head_root (t := 27) (by (repeat' (first | assumption | exact at_alloc_new (by simp; done) | refine at_alloc_old ?_ _ | refine setCell_other (by omega) ?_ | rw [at_drew] | refine at_below (by assumption) ?_)))⟩))
    ((go_split_ands; first | (go_at_call 94; refine (ref07_Number _ _).mono ?_; rintro e w1 ⟨rfl, hb⟩; have ha := below_rule hb; have hs := hb.size; (try simp only [World.size_alloc, World.size_setCell, size_put, World.size_drew] at hs)) | (go_at_call 95; refine (ref02_Text _ _).mono ?_; rintro e w1 ⟨rfl, hb⟩; have ha := below_rule hb; have hs := hb.size; (try simp only [World.size_alloc, World.size_setCell, size_put, World.size_drew] at hs)) | (go_at_call 93; refine (row_head h _ _ ?_).mono ?_; (· (repeat' (first | assumption | exact at_alloc_new (by simp; done) | refine at_alloc_old ?_ _ | refine setCell_other (by omega) ?_ | rw [at_drew] | refine at_below (by assumption) ?_))); rintro e w1 ⟨v1, rfl, hown, hb⟩; have ha := below_rule hb; have hs := hb.size; (try simp only [World.size_alloc, World.size_setCell, size_put, World.size_drew] at hs))))
  all_goals
    go_wp2
    go_ret
    go_split_ands
    have hsW := hbW.size
    exact ⟨_, rfl, (OwnSl.base (OwnB.sl hown) (by (try simp only [World.size_alloc, World.size_drew] at *); omega)).b, below_call hbW (Since_.out (by assumption))⟩
set_option maxRecDepth 20000 in
set_option maxHeartbeats 1000000 in
theorem ref07_Put (h : Head) (w : World) : Calls Try.prog 28 #[.agg (encHead h).toArray] w (ResBE (headOut h) h.err w) := by
  cases hok : h.ok
  · rw [show headOut h = [] by simp [headOut, hok], show h.err = 70 by simp [Head.err, hok]]
    go_enter Try.func28, Try.ntmps28
    go_wp2_with ((go_at_call 64; refine (ref07_Right _ _).mono ?_; rintro e w1 ⟨rfl, hb⟩; have ha := below_rule hb; have hs := hb.size; (try simp only [World.size_alloc, World.size_setCell, size_put, World.size_drew] at hs)))
    go_ret2
    exact ⟨_, rfl, ownB_nil _ _, by (repeat' (first | exact Below.refl _ _ | assumption | refine below_drew ?_ | refine below_drewN ?_ _ | refine below_alloc ?_ _ | refine below_call ?_ (by assumption) | refine below_put ?_ _ _ _ (by first | omega | (simp; omega)) | refine below_setCell ?_ _ _ (by first | (simp; omega) | (simp; done) | omega) | refine below_putObj ?_ _ _ (by first | omega | (simp; omega) | (simp; done))))⟩
  · rw [show headOut h = headBytes h by simp [headOut, hok], show h.err = 0 by simp [Head.err, hok]]
    go_enter Try.func28, Try.ntmps28
    go_wp2_with (first | (go_at_call 64; refine (ref07_Right _ _).mono ?_; rintro e w1 ⟨rfl, hb⟩; have ha := below_rule hb; have hs := hb.size; (try simp only [World.size_alloc, World.size_setCell, size_put, World.size_drew] at hs)) | (go_at_call 65; refine (ref07_Bytes _ _).mono ?_; rintro e w1 ⟨v1, rfl, hown, hb⟩; have ha := below_rule hb; have hs := hb.size; (try simp only [World.size_alloc, World.size_setCell, size_put, World.size_drew] at hs)))
    go_ret2
    exact ⟨_, rfl, (OwnSl.base (OwnB.sl hown) (by omega)).b, by (repeat' (first | exact Below.refl _ _ | assumption | refine below_drew ?_ | refine below_drewN ?_ _ | refine below_alloc ?_ _ | refine below_call ?_ (by assumption) | refine below_put ?_ _ _ _ (by first | omega | (simp; omega)) | refine below_setCell ?_ _ _ (by first | (simp; omega) | (simp; done) | omega) | refine below_putObj ?_ _ _ (by first | omega | (simp; omega) | (simp; done))))⟩
end Go.Proofs.Ytgnebofjfmbccaa
