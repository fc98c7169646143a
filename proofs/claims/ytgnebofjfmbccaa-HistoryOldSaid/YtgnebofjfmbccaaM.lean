/-
  estreatlaw11.HistoryOld, walked: it returns true.
-/
import Derived.Test.YtgnebofjfmbccaaL
import Derived.Test.YtgnebofjfmbccaaI
import Derived.Test.YtgnebofjfmbccaaD
set_option linter.all false
namespace Go.Proofs.Ytgnebofjfmbccaa
open Go.RowKit
set_option maxHeartbeats 4000000 in
theorem estreatlaw11_HistoryOld (l : List Item) (a : Option Addr) (cap : Nat) (w : World) (h : SliceAt encItem 110 w a l) (hl : l.length ≤ 1000000000000) :
    Calls Try.prog 4 #[.slice a l.length cap] w (Res (.bool true) w) := by
  have hS : ∀ w', Below w.heap.size w w' → SliceAt encItem 110 w' a l := fun w' hb => h.below hb
  by_cases hB : bigLog l = true
  · go_enter Try.func4, Try.ntmps4
    go_wp2_with ((go_at_call 12; refine (ref11_Big l _ _ _ (hS _ (by (repeat' (first | exact Below.refl _ _ | assumption | refine below_drew ?_ | refine below_drewN ?_ _ | refine below_alloc ?_ _ | refine below_call ?_ (by assumption) | refine below_put ?_ _ _ _ (by first | omega | (simp; omega)) | refine below_setCell ?_ _ _ (by first | (simp; omega) | (simp; done) | omega) | refine below_putObj ?_ _ _ (by first | omega | (simp; omega) | (simp; done)))))) hl).mono ?_; rintro e w' ⟨rfl, rfl⟩))
    go_ret
    exact ⟨rfl, by (repeat' (first | exact Below.refl _ _ | assumption | refine below_drew ?_ | refine below_drewN ?_ _ | refine below_alloc ?_ _ | refine below_call ?_ (by assumption) | refine below_put ?_ _ _ _ (by first | omega | (simp; omega)) | refine below_setCell ?_ _ _ (by first | (simp; omega) | (simp; done) | omega) | refine below_putObj ?_ _ _ (by first | omega | (simp; omega) | (simp; done))))⟩
  have hB' : bigLog l = false := by simpa using hB
  have h60 : l.length ≤ 60 := by
    unfold bigLog at hB
    simp only [Bool.or_eq_true, decide_eq_true_eq, not_or] at hB
    omega
  clear hB
  go_enter Try.func4, Try.ntmps4
  go_wp2_with ((go_at_call 12; refine (ref11_Big l _ _ _ (hS _ (by (repeat' (first | exact Below.refl _ _ | assumption | refine below_drew ?_ | refine below_drewN ?_ _ | refine below_alloc ?_ _ | refine below_call ?_ (by assumption) | refine below_put ?_ _ _ _ (by first | omega | (simp; omega)) | refine below_setCell ?_ _ _ (by first | (simp; omega) | (simp; done) | omega) | refine below_putObj ?_ _ _ (by first | omega | (simp; omega) | (simp; done)))))) hl).mono ?_; rintro e w' ⟨rfl, rfl⟩))
  go_loopw [3, 4] (fun v i wr => ∃ (k : Nat), k ≤ l.length ∧ i = .int .i64 k ∧ OwnSl encItem 110 35 wr w.heap.size v (grow [] (l.take k)) ∧ Below w.heap.size w wr) (fun _ i _ => l.length - (intOf i).toNat)
  case atStart => exact ⟨0, Nat.zero_le _, rfl, by simpa [grow] using OwnSl.nil _ _ _ _ _, Below.refl _ _⟩
  case round =>
    obtain ⟨k, hk, rfl, hown, hb0⟩ := hrel
    have hg := grew_take l k
    have hstep : ∀ (hlt : k < l.length), grow [] (l.take (k + 1)) = growBy (grow [] (l.take k)) l[k] := fun hlt => by rw [take_snoc hlt, grow_snoc]
    obtain ⟨al, hal⟩ : ∃ al, grow [] (l.take k) = al := ⟨_, rfl⟩
    rw [hal] at hown hg hstep
    have HS := Lib.hid hstep; clear hstep
    have HA := Lib.hid hal; clear hal
    have hg2 := hg.length
    obtain ⟨a2, cap2, rfl, hsl, hcap, hblk⟩ := hown.slice encItem_length
    have hS2 : ∀ w', Below wr.heap.size wr w' → SliceAt encItem 110 w' a2 al := fun w' hb => hsl.below hb
    by_cases hlt : k < l.length
    · obtain ⟨b, off, ha, hbl, hrow⟩ := (h.below hb0).get hlt
      subst ha
      have hsz := hb0.size
      by_cases hm : mayErr al l[k] = 0
      · go_wp2_with (first | (go_at_call 19; refine (history_May al _ _ _ _ (hS2 _ (by (repeat' (first | exact Below.refl _ _ | assumption | refine below_drew ?_ | refine below_drewN ?_ _ | refine below_alloc ?_ _ | refine below_call ?_ (by assumption) | refine below_put ?_ _ _ _ (by first | omega | (simp; omega)) | refine below_setCell ?_ _ _ (by first | (simp; omega) | (simp; done) | omega) | refine below_putObj ?_ _ _ (by first | omega | (simp; omega) | (simp; done)))))) (by omega)).mono ?_; rintro e w1 ⟨rfl, hb⟩; have ha := below_rule hb; have hs := hb.size; (try simp only [World.size_alloc, World.size_setCell, size_put, World.size_drew] at hs)) | (at_builtin; refine wpList_app (enc := encItem) rfl _ _ 22 rfl w.heap.size 35 _ 110 216 Try.underlying22 info_Item rfl (by omega) encItem_length encItem_one _ al rfl ((hown.kept (by assumption)).alloc _) _ 1 [l[k]] rfl (sliceAt_rows encItem_length (by (repeat' (first | assumption | exact at_alloc_new (by simp; done) | refine at_alloc_old ?_ _ | refine setCell_other (by omega) ?_ | rw [at_drew] | refine at_below (by assumption) ?_)))) (by simp; omega) (by simp; omega) (by (try simp); omega) ?_; intro v' w' hown' hg' hk'))
        have hgr : World.grownBy _ _ (Value.slice a2 al.length cap2).ownBlock := hg'
        refine ⟨⟨k + 1, by omega, by go_num, by rw [HS.out hlt]; unfold growBy; rw [if_pos hm]; exact hown', below_grown (by (repeat' (first | exact Below.refl _ _ | assumption | refine below_drew ?_ | refine below_drewN ?_ _ | refine below_alloc ?_ _ | refine below_call ?_ (by assumption) | refine below_put ?_ _ _ _ (by first | omega | (simp; omega)) | refine below_setCell ?_ _ _ (by first | (simp; omega) | (simp; done) | omega) | refine below_putObj ?_ _ _ (by first | omega | (simp; omega) | (simp; done))))) hgr (fun j hj => (hown.block j hj).1)⟩, by simp [intOf]; omega⟩
      · have hm' : (mayErr al l[k] == 0) = false := by simp [hm]
        go_wp2_with (first | (go_at_call 19; refine (history_May al _ _ _ _ (hS2 _ (by (repeat' (first | exact Below.refl _ _ | assumption | refine below_drew ?_ | refine below_drewN ?_ _ | refine below_alloc ?_ _ | refine below_call ?_ (by assumption) | refine below_put ?_ _ _ _ (by first | omega | (simp; omega)) | refine below_setCell ?_ _ _ (by first | (simp; omega) | (simp; done) | omega) | refine below_putObj ?_ _ _ (by first | omega | (simp; omega) | (simp; done)))))) (by omega)).mono ?_; rintro e w1 ⟨rfl, hb⟩; have ha := below_rule hb; have hs := hb.size; (try simp only [World.size_alloc, World.size_setCell, size_put, World.size_drew] at hs)))
        go_roundw
        case rel => exact ⟨k + 1, by omega, by go_num, by rw [HS.out hlt]; unfold growBy; rw [if_neg hm]; exact hown.kept hb, by (repeat' (first | exact Below.refl _ _ | assumption | refine below_drew ?_ | refine below_drewN ?_ _ | refine below_alloc ?_ _ | refine below_call ?_ (by assumption) | refine below_put ?_ _ _ _ (by first | omega | (simp; omega)) | refine below_setCell ?_ _ _ (by first | (simp; omega) | (simp; done) | omega) | refine below_putObj ?_ _ _ (by first | omega | (simp; omega) | (simp; done))))⟩
        case measure => simp [intOf]; omega
    · have hkl : k = l.length := by omega
      subst hkl
      clear HS HA
      go_wp2
      have hsz0 := hb0.size
      have hblw : ∀ w', Below wr.heap.size wr w' → Below w.heap.size w w' := fun w' hb => ⟨hb.os.trans hb0.os, hb.tape.trans hb0.tape, hb.output.trans hb0.output, Nat.le_trans hb0.size hb.size, fun j hj => (hb.block j (by omega)).trans (hb0.block j hj)⟩
      clear hb0 hown hblk
      go_loopw [6] (fun i wq => ∃ (k : Nat) (n0 : Int), k ≤ al.length ∧ i = .int .i64 k ∧ wq.at_ wr.heap.size = some (.cells #[.int .i64 n0, .int .i64 (lastSeq 1 (al.take k)), .int .i64 (lastSeq 2 (al.take k)), .int .i64 (lastSeq 3 (al.take k))] 46) ∧ Below wr.heap.size wr wq) (fun i _ => al.length - (intOf i).toNat)
      case atStart => exact ⟨0, 0, Nat.zero_le _, rfl, by rw [at_alloc, if_pos rfl]; rfl, by (repeat' (first | exact Below.refl _ _ | assumption | refine below_drew ?_ | refine below_drewN ?_ _ | refine below_alloc ?_ _ | refine below_call ?_ (by assumption) | refine below_put ?_ _ _ _ (by first | omega | (simp; omega)) | refine below_setCell ?_ _ _ (by first | (simp; omega) | (simp; done) | omega) | refine below_putObj ?_ _ _ (by first | omega | (simp; omega) | (simp; done))))⟩
      case round =>
        obtain ⟨k, n0, hk, rfl, hL, hbq⟩ := hrel
        have hszq := hbq.size
        have hltL := at_lt hL
        by_cases hlt : k < al.length
        · obtain ⟨b, off, ha, hbl, hrow⟩ := (hS2 _ hbq).get hlt
          subst ha
          obtain ⟨c0, c1, c2, c3, c4, c5, c6⟩ := item_cells hrow
          by_cases hu : al[k].entry.kind = 1
          · have hk1 := find_self hg hlt hu
            have hls := lastSeq_lt hg hlt hu
            obtain ⟨hc1, hc3, _⟩ := Item.ok_user (okFrom_mem al 0 (by have := hg.ok; unfold logOk at this; simp only [Bool.and_eq_true] at this; exact this.1) _ (List.getElem_mem hlt)) hu
            have hf1 : foundAt (posFrom (isSeq al[k].entry.client al[k].entry.seq) 0 al) = k := by rw [hk1]; rfl
            have hf2 : (posFrom (isSeq al[k].entry.client al[k].entry.seq) 0 al).isSome = true := by rw [hk1]; rfl
            have hs1 : ∀ c, lastSeq c (al.take (k + 1)) = if al[k].entry.client = c then al[k].entry.seq else lastSeq c (al.take k) := fun c => by rw [take_snoc hlt, lastSeq_snoc]; simp [hu]
            have HS1 := Lib.hid hs1; clear hs1 hk1
            rcases (show al[k].entry.client = 1 ∨ al[k].entry.client = 2 ∨ al[k].entry.client = 3 by omega) with hc | hc | hc
            all_goals
              rw [hc] at hls hf1 hf2
              have hls2 := decide_eq_false (Int.not_le.2 hls)
              clear hc1 hc3
              go_wp2_with ((go_at_call 15; refine (history_Find al _ _ _ _ _ (hS2 _ (by (repeat' (first | exact Below.refl _ _ | assumption | refine below_drew ?_ | refine below_drewN ?_ _ | refine below_alloc ?_ _ | refine below_call ?_ (by assumption) | refine below_put ?_ _ _ _ (by first | omega | (simp; omega)) | refine below_setCell ?_ _ _ (by first | (simp; omega) | (simp; done) | omega) | refine below_putObj ?_ _ _ (by first | omega | (simp; omega) | (simp; done)))))) (by omega)).mono ?_; rintro e w1 ⟨rfl, hb⟩; have ha := below_rule hb; have hs := hb.size; (try simp only [World.size_alloc, World.size_setCell, size_put, World.size_drew] at hs)))
              (refine wp_region_ext (by kernel_rfl) (by kernel_rfl) ?_; (repeat (go_big_quiet_step (fail))); refine wpQuiet_nil ?_; intro w1 hw'; have hb := ext_below hw'; clear hw'; have ha := below_rule hb; have hs := hb.size; (try simp only [World.size_alloc, World.size_setCell, size_put, World.size_drew] at hs))
              go_wp2
              go_roundw
              case rel =>
                refine ⟨k + 1, n0, by omega, by go_num, ?_, by (repeat' (first | exact Below.refl _ _ | assumption | refine below_drew ?_ | refine below_drewN ?_ _ | refine below_alloc ?_ _ | refine below_call ?_ (by assumption) | refine below_put ?_ _ _ _ (by first | omega | (simp; omega)) | refine below_setCell ?_ _ _ (by first | (simp; omega) | (simp; done) | omega) | refine below_putObj ?_ _ _ (by first | omega | (simp; omega) | (simp; done))))⟩
                rw [HS1.out, HS1.out, HS1.out, hc, at_setCell, if_pos rfl, show World.at_ _ _ = _ from (by (repeat' (first | assumption | exact at_alloc_new (by simp; done) | refine at_alloc_old ?_ _ | refine setCell_other (by omega) ?_ | rw [at_drew] | refine at_below (by assumption) ?_)) : _ = some (.cells #[.int .i64 n0, .int .i64 (lastSeq 1 (al.take k)), .int .i64 (lastSeq 2 (al.take k)), .int .i64 (lastSeq 3 (al.take k))] 46))]
                rfl
              case measure => simp [intOf]; omega
          · have hs1 : ∀ c, lastSeq c (al.take (k + 1)) = lastSeq c (al.take k) := fun c => by rw [take_snoc hlt, lastSeq_snoc]; simp [hu]
            have HS1 := Lib.hid hs1; clear hs1
            have hu' : (al[k].entry.kind == 1) = false := by simp [hu]
            go_wp2
            go_roundw
            case rel => exact ⟨k + 1, n0, by omega, by go_num, by rw [HS1.out, HS1.out, HS1.out]; (repeat' (first | assumption | exact at_alloc_new (by simp; done) | refine at_alloc_old ?_ _ | refine setCell_other (by omega) ?_ | rw [at_drew] | refine at_below (by assumption) ?_)), by (repeat' (first | exact Below.refl _ _ | assumption | refine below_drew ?_ | refine below_drewN ?_ _ | refine below_alloc ?_ _ | refine below_call ?_ (by assumption) | refine below_put ?_ _ _ _ (by first | omega | (simp; omega)) | refine below_setCell ?_ _ _ (by first | (simp; omega) | (simp; done) | omega) | refine below_putObj ?_ _ _ (by first | omega | (simp; omega) | (simp; done))))⟩
            case measure => simp [intOf]; omega
        · have hkl : k = al.length := by omega
          subst hkl
          have hq := hg.ok
          have he : logErr al = 0 := by unfold logErr; rw [hq]; rfl
          go_wp2_with (first | (go_at_call 17; refine (estreatlaw11_finds _).mono ?_; rintro e w1 ⟨rfl, hb⟩; have ha := below_rule hb; have hs := hb.size; (try simp only [World.size_alloc, World.size_setCell, size_put, World.size_drew] at hs)) | (go_at_call 14; refine (history_Check al _ _ _ (hS2 _ (by (repeat' (first | exact Below.refl _ _ | assumption | refine below_drew ?_ | refine below_drewN ?_ _ | refine below_alloc ?_ _ | refine below_call ?_ (by assumption) | refine below_put ?_ _ _ _ (by first | omega | (simp; omega)) | refine below_setCell ?_ _ _ (by first | (simp; omega) | (simp; done) | omega) | refine below_putObj ?_ _ _ (by first | omega | (simp; omega) | (simp; done)))))) (by omega)).mono ?_; rintro e w1 ⟨rfl, hb⟩; have ha := below_rule hb; have hs := hb.size; (try simp only [World.size_alloc, World.size_setCell, size_put, World.size_drew] at hs)))
          go_ret
          exact ⟨rfl, hblw _ (by (repeat' (first | exact Below.refl _ _ | assumption | refine below_drew ?_ | refine below_drewN ?_ _ | refine below_alloc ?_ _ | refine below_call ?_ (by assumption) | refine below_put ?_ _ _ _ (by first | omega | (simp; omega)) | refine below_setCell ?_ _ _ (by first | (simp; omega) | (simp; done) | omega) | refine below_putObj ?_ _ _ (by first | omega | (simp; omega) | (simp; done)))))⟩
end Go.Proofs.Ytgnebofjfmbccaa
