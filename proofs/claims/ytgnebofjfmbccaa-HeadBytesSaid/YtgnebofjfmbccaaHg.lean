/-
  estreatlaw07.HeadBytes, walked: it returns true.
-/
import Derived.Test.YtgnebofjfmbccaaHf
import Derived.Test.YtgnebofjfmbccaaV
set_option linter.all false
namespace Go.Proofs.Ytgnebofjfmbccaa
open Go.RowKit
theorem run_strOn (w : World) (a : Option Addr) (cap : Nat) (l : List UInt8) (h : BytesAt w a l) : (strConv (.slice a l.length cap)).run Try.prog w = .ok (.string (strOf l)) w :=
  run_str Try.underlying47 Try.underlying5 Try.underlying9 w a cap l h
theorem BytesAt.upto {w : World} {a : Option Addr} {l : List UInt8} (h : BytesAt w a l) (n : Nat) : BytesAt w a (l.take n) := by
  rcases h with h | ⟨b, off, rfl, hlt, h⟩
  · left; rw [h]; simp
  · refine .inr ⟨b, off, rfl, hlt, fun i x hx => h i x ?_⟩
    rw [List.getElem?_take] at hx
    split at hx
    · exact hx
    · cases hx
theorem estreatlaw07_one (w : World) : Calls Try.prog 67 #[] w (Res (.agg (encHead law_h).toArray) w) := by
  go_enter Try.func67, Try.ntmps67
  go_wp2
  refine bodyPost_ret (results_one rfl (.agg 36 (g := w.heap.size) (by rw [at_alloc, if_pos rfl]) rfl (by kernel_rfl) (encHead_length _))) rfl ?_
  exact ⟨rfl, by (repeat' (first | exact Below.refl _ _ | assumption | refine below_drew ?_ | refine below_drewN ?_ _ | refine below_alloc ?_ _ | refine below_call ?_ (by assumption) | refine below_put ?_ _ _ _ (by first | omega | (simp; omega)) | refine below_setCell ?_ _ _ (by first | (simp; omega) | (simp; done) | omega) | refine below_putObj ?_ _ _ (by first | omega | (simp; omega) | (simp; done))))⟩
theorem get_ok {h : Head} (hok : h.ok = true) (l : List UInt8) (hl : headBytes h = l) (a : Option Addr) (n cap : Nat) (hn : n = l.length) (w : World) (hb : BytesAt w a l) (hcap : l.length ≤ cap) :
    Calls Try.prog 31 #[.slice a n cap] w (Res2 (.agg (encHead h).toArray) (.int .i64 0) w) := by
  subst hl
  subst hn
  have := head_Get (headBytes h) a cap w hb (by have := headBytes_len h; omega) hcap
  rw [(getHead_bytes h hok).1, (getHead_bytes h hok).2] at this
  exact this
theorem get_short (a : Option Addr) (cap : Nat) (w : World) (hb : BytesAt w a law_hb) (hcap : 54 ≤ cap) :
    Calls Try.prog 31 #[.slice a 53 cap] w (Res2 (.agg (encHead (getHead (law_hb.take 53))).toArray) (.int .i64 70) w) := by
  have := head_Get (law_hb.take 53) a cap w (hb.upto 53) (by decide) (by show 53 ≤ cap; omega)
  rw [law_hb_short] at this
  exact this
set_option maxRecDepth 20000 in
set_option maxHeartbeats 4000000 in
theorem estreatlaw07_lays (w : World) : Calls Try.prog 30 #[] w (Res (.bool true) w) := by
  go_enter Try.func30, Try.ntmps30
  go_wp2_with ((go_at_call 67; refine (estreatlaw07_one _).mono ?_; rintro e w1 ⟨rfl, hb⟩; have ha := below_rule hb; have hs := hb.size; (try simp only [World.size_alloc, World.size_setCell, size_put, World.size_drew] at hs)))
  go_at_call 27
  refine (head_Put_ok law_h_ok _).mono ?_
  rintro e w2 ⟨v2, rfl, hown2, hb⟩
  obtain ⟨a2, cap2, rfl, hsl2, hcap2, hblk2⟩ := hown2.sl.slice encB_length
  rw [law_h_bytes] at hsl2 hcap2
  obtain ⟨b2, o2, rfl, hbl2, hrow2⟩ := BytesAt.row hsl2 (by decide)
  rw [law_h_bytes, show law_hb.length = 54 from rfl]
  have hcap54 : 54 ≤ cap2 := hcap2
  have hcapI : (54 : Int) ≤ cap2 := by omega
  have hrow14 : rowOf (w2.at_ b2) o2 14 = some (bcells [1, 0, 0, 1, 1, 2, 0, 0, 1, 1, 3, 0, 0, 0]) := by
    have := rowOf_sub hrow2 (p := 0) (m := 14) (by decide)
    rw [Nat.add_zero] at this
    rw [this]; rfl
  clear hrow2 hown2
  have hs2 := hb.size
  have hb2 := below_call (by assumption) hb
  clear hb ha hs
  go_wp2_with fail
  go_at_call 31
  refine (get_ok law_h_ok law_hb law_h_bytes _ 54 _ rfl _ hsl2 hcap54).mono ?_
  rintro e w3 ⟨rfl, hb⟩
  have hb3 := below_call hb2 hb
  have hsl3 := SliceAt.below hsl2 hb
  clear hsl2 hrow14 hb hb2 hbl2 hs2
  go_wp2_with fail
  go_at_call 31
  refine (get_short _ _ _ (SliceAt.below hsl3 (by (repeat' (first | exact Below.refl _ _ | assumption | refine below_drew ?_ | refine below_drewN ?_ _ | refine below_alloc ?_ _ | refine below_call ?_ (by assumption) | refine below_put ?_ _ _ _ (by first | omega | (simp; omega)) | refine below_setCell ?_ _ _ (by first | (simp; omega) | (simp; done) | omega) | refine below_putObj ?_ _ _ (by first | omega | (simp; omega) | (simp; done)))))) hcap54).mono ?_
  rintro e w1 ⟨rfl, hb⟩
  have ha := below_rule hb; have hs := hb.size; (try simp only [World.size_alloc, World.size_setCell, size_put, World.size_drew] at hs)
  generalize getHead (List.take 53 law_hb) = gh
  clear hsl3
  go_wp2_with fail
  generalize hV : World.alloc w1 _ = V
  have rV : V.at_ w3.heap.size = some (.cells (encHead law_h).toArray 27) := by rw [← hV]; exact at_alloc_old (at_below hb (at_alloc_new rfl)) _
  have hbV : Below w.heap.size w V := by rw [← hV]; (repeat' (first | exact Below.refl _ _ | assumption | refine below_drew ?_ | refine below_drewN ?_ _ | refine below_alloc ?_ _ | refine below_call ?_ (by assumption) | refine below_put ?_ _ _ _ (by first | omega | (simp; omega)) | refine below_setCell ?_ _ _ (by first | (simp; omega) | (simp; done) | omega) | refine below_putObj ?_ _ _ (by first | omega | (simp; omega) | (simp; done))))
  have hlV := at_lt rV
  have he1 : law_h.err = 0 := by decide
  have he2 : Head.zero.err = 70 := by decide
  clear hV ha hb hs
  (refine wp_region_ext (by kernel_rfl) (by kernel_rfl) ?_; (repeat (go_big_quiet_step (first | (go_at_call 67; exact ext_res (estreatlaw07_one _)) | (go_at_call 29; exact ext_res (head_Check _ _))))); refine wpQuiet_nil ?_; intro w1 hw'; have hb := ext_below hw'; clear hw'; have ha := below_rule hb; have hs := hb.size; (try simp only [World.size_alloc, World.size_setCell, size_put, World.size_drew] at hs))
  go_wp2
  go_ret
  exact ⟨rfl, by (repeat' (first | exact Below.refl _ _ | assumption | refine below_drew ?_ | refine below_drewN ?_ _ | refine below_alloc ?_ _ | refine below_call ?_ (by assumption) | refine below_put ?_ _ _ _ (by first | omega | (simp; omega)) | refine below_setCell ?_ _ _ (by first | (simp; omega) | (simp; done) | omega) | refine below_putObj ?_ _ _ (by first | omega | (simp; omega) | (simp; done))))⟩
set_option maxRecDepth 20000 in
set_option maxHeartbeats 4000000 in
theorem estreatlaw07_HeadBytes (h : Head) (w : World) : Calls Try.prog 6 #[.agg (encHead h).toArray] w (Res (.bool true) w) := by
  have hp := head_Put h
  have hr := ref07_Put h
  cases hok : h.ok
  · rw [show headOut h = [] by simp [headOut, hok], show h.err = 70 by simp [Head.err, hok]] at hp hr
    go_enter Try.func6, Try.ntmps6
    go_wp2_with (first | (go_at_call 27; refine (hp _).mono ?_; rintro e w1 ⟨v1, rfl, hown, hb⟩; obtain ⟨a1, cap1, rfl, hsl1, hcap1, hblk1⟩ := hown.sl.slice encB_length; have ha := below_rule hb; have hs := hb.size; (try simp only [World.size_alloc, World.size_setCell, size_put, World.size_drew] at hs)) | (go_at_call 28; refine (hr _).mono ?_; rintro e w2 ⟨v2, rfl, hown2, hb⟩; obtain ⟨a2, cap2, rfl, hsl2, hcap2, hblk2⟩ := hown2.sl.slice encB_length; have hsl1 := SliceAt.below hsl1 hb; have ha := below_rule hb; have hs := hb.size; (try simp only [World.size_alloc, World.size_setCell, size_put, World.size_drew] at hs)) | (go_at_call 29; refine (headCheck_no hok _).mono ?_; rintro e w3 ⟨rfl, hb⟩; have hst1 : (strConv (.slice a1 0 cap1)).run Try.prog w3 = _ := run_strOn w3 a1 cap1 [] (SliceAt.below hsl1 hb); have hst2 : (strConv (.slice a2 0 cap2)).run Try.prog w3 = _ := run_strOn w3 a2 cap2 [] (SliceAt.below hsl2 hb); have ha := below_rule hb; have hs := hb.size; (try simp only [World.size_alloc, World.size_setCell, size_put, World.size_drew] at hs)) | (go_at_call 30; refine (estreatlaw07_lays _).mono ?_; rintro e w1 ⟨rfl, hb⟩; have ha := below_rule hb; have hs := hb.size; (try simp only [World.size_alloc, World.size_setCell, size_put, World.size_drew] at hs)))
    go_ret
    exact ⟨rfl, by (repeat' (first | exact Below.refl _ _ | assumption | refine below_drew ?_ | refine below_drewN ?_ _ | refine below_alloc ?_ _ | refine below_call ?_ (by assumption) | refine below_put ?_ _ _ _ (by first | omega | (simp; omega)) | refine below_setCell ?_ _ _ (by first | (simp; omega) | (simp; done) | omega) | refine below_putObj ?_ _ _ (by first | omega | (simp; omega) | (simp; done))))⟩
  · rw [show headOut h = headBytes h by simp [headOut, hok], show h.err = 0 by simp [Head.err, hok]] at hp hr
    go_enter Try.func6, Try.ntmps6
    go_wp2_with (first | (go_at_call 27; refine (hp _).mono ?_; rintro e w1 ⟨v1, rfl, hown, hb⟩; obtain ⟨a1, cap1, rfl, hsl1, hcap1, hblk1⟩ := hown.sl.slice encB_length; have ha := below_rule hb; have hs := hb.size; (try simp only [World.size_alloc, World.size_setCell, size_put, World.size_drew] at hs)) | (go_at_call 28; refine (hr _).mono ?_; rintro e w2 ⟨v2, rfl, hown2, hb⟩; obtain ⟨a2, cap2, rfl, hsl2, hcap2, hblk2⟩ := hown2.sl.slice encB_length; have hsl1 := SliceAt.below hsl1 hb; have ha := below_rule hb; have hs := hb.size; (try simp only [World.size_alloc, World.size_setCell, size_put, World.size_drew] at hs)) | (go_at_call 29; refine (headCheck_ok hok _).mono ?_; rintro e w3 ⟨rfl, hb⟩; have hst1 := run_strOn w3 a1 cap1 _ (SliceAt.below hsl1 hb); have hst2 := run_strOn w3 a2 cap2 _ (SliceAt.below hsl2 hb); have hsl3 := SliceAt.below hsl1 hb; have ha := below_rule hb; have hs := hb.size; (try simp only [World.size_alloc, World.size_setCell, size_put, World.size_drew] at hs)) | (go_at_call 30; refine (estreatlaw07_lays _).mono ?_; rintro e w1 ⟨rfl, hb⟩; have ha := below_rule hb; have hs := hb.size; (try simp only [World.size_alloc, World.size_setCell, size_put, World.size_drew] at hs)) | (go_at_call 31; refine (get_ok hok _ rfl a1 _ cap1 rfl _ hsl3 hcap1).mono ?_; rintro e w1 ⟨rfl, hb⟩; have ha := below_rule hb; have hs := hb.size; (try simp only [World.size_alloc, World.size_setCell, size_put, World.size_drew] at hs)))
    go_ret
    exact ⟨rfl, by (repeat' (first | exact Below.refl _ _ | assumption | refine below_drew ?_ | refine below_drewN ?_ _ | refine below_alloc ?_ _ | refine below_call ?_ (by assumption) | refine below_put ?_ _ _ _ (by first | omega | (simp; omega)) | refine below_setCell ?_ _ _ (by first | (simp; omega) | (simp; done) | omega) | refine below_putObj ?_ _ _ (by first | omega | (simp; omega) | (simp; done))))⟩
end Go.Proofs.Ytgnebofjfmbccaa
