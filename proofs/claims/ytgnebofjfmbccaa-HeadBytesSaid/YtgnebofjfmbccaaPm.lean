/-
  pack.Lay: a row of fields, laid.
-/
import Derived.Test.YtgnebofjfmbccaaPk
set_option linter.all false
namespace Go.Proofs.Ytgnebofjfmbccaa
open Go.RowKit
theorem layA_drop (l : List Fld) (k : Nat) (hk : k < l.length) (acc : List UInt8) (last : Int) : layA acc last (l.drop k) = if mayF l[k] last = 0 then layA (acc ++ fieldB l[k].tag (bytesOf l[k].data)) l[k].tag (l.drop (k + 1)) else ([], mayF l[k] last) := by
  rw [List.drop_eq_getElem_cons hk]; rfl
theorem mayF_size {f : Fld} {last : Int} (h : mayF f last = 0) : f.data.size ≤ 65536 := by
  unfold mayF at h
  split at h
  · simp at h
  · split at h
    · simp at h
    · omega
theorem fld_cells {w : World} {b o : Nat} {x : Fld} (h : rowOf (w.at_ b) o 2 = some (encFld x)) : cellOf (w.at_ b) o = some (.int .i64 x.tag) ∧ cellOf (w.at_ b) (o + 1) = some (.string x.data) :=
  ⟨row_cell h 0 (by omega) rfl, row_cell h 1 (by omega) rfl⟩
set_option maxRecDepth 20000 in
set_option maxHeartbeats 2000000 in
theorem pack_Lay (l : List Fld) (a : Option Addr) (cap : Nat) (w : World) (h : SliceAt encFld 2 w a l) (hl : l.length ≤ 1000) :
    Calls Try.prog 92 #[.slice a l.length cap] w (ResBE (layA [] 0 l).1 (layA [] 0 l).2 w) := by
  go_enter Try.func92, Try.ntmps92
  go_wp2
  go_loopw [4, 5, 11] (fun v la i wr => ∃ (k : Nat) (acc : List UInt8) (last : Int), k ≤ l.length ∧ i = .int .i64 k ∧ la = .int .i64 last ∧ OwnB wr w.heap.size v acc ∧ layA [] 0 l = layA acc last (l.drop k) ∧ acc.length ≤ k * 65540 ∧ Below w.heap.size w wr) (fun _ _ i _ => l.length - (intOf i).toNat)
  case atStart => exact ⟨0, [], 0, Nat.zero_le _, rfl, rfl, ownB_nil _ _, rfl, by simp, Below.refl _ _⟩
  case round =>
    obtain ⟨k, acc, last, hk, rfl, rfl, hown, hd, hal, hb0⟩ := hrel
    have hsz := hb0.size
    by_cases hlt : k < l.length
    · obtain ⟨b, off, ha, hbl, hrow⟩ := (h.below hb0).get hlt
      subst ha
      rw [layA_drop l k hlt] at hd
      by_cases hm : mayF l[k] last = 0
      · rw [if_pos hm] at hd
        have H := Lib.hid hd; clear hd
        have hq : (mayF l[k] last == 0) = true := by simp [hm]
        have hds := mayF_size hm
        go_wp2_with ((go_at_call 109; refine (pack_may _ _ _).mono ?_; rintro e w1 ⟨rfl, hb⟩; have ha := below_rule hb; have hs := hb.size; (try simp only [World.size_alloc, World.size_setCell, size_put, World.size_drew] at hs)))
        have rT : w1.at_ wr.heap.size = some (.cells (encFld l[k]).toArray 96) := by (repeat' (first | assumption | exact at_alloc_new (by simp; done) | refine at_alloc_old ?_ _ | refine setCell_other (by omega) ?_ | rw [at_drew] | refine at_below (by assumption) ?_))
        have hown1 : OwnB w1 w.heap.size u4 acc := (OwnSl.kept (OwnSl.alloc hown.sl _) hb).b
        have hb1 : Below w.heap.size w w1 := by (repeat' (first | exact Below.refl _ _ | assumption | refine below_drew ?_ | refine below_drewN ?_ _ | refine below_alloc ?_ _ | refine below_call ?_ (by assumption) | refine below_put ?_ _ _ _ (by first | omega | (simp; omega)) | refine below_setCell ?_ _ _ (by first | (simp; omega) | (simp; done) | omega) | refine below_putObj ?_ _ _ (by first | omega | (simp; omega) | (simp; done))))
        have hob := hown.sl.block
        clear hown hb hs ha
        have hsz1 := hb1.size
        go_region_held3 (fun w' => w'.at_ wr.heap.size = some (.cells (encFld l[k]).toArray 96))
          ((first | ((repeat' (first | assumption | exact at_alloc_new (by simp; done) | refine at_alloc_old ?_ _ | refine setCell_other (by omega) ?_ | rw [at_drew] | refine at_below (by assumption) ?_)); done) | exact (hm2.at (by (repeat' (first | assumption | exact at_alloc_new (by simp; done) | refine at_alloc_old ?_ _ | refine setCell_other (by omega) ?_ | rw [at_drew] | refine at_below (by assumption) ?_))) (fun e => by have := (hob _ e).2; omega))))
          ((go_at_call 110; refine (pack_put_fld w.heap.size _ acc l[k] _ (by exact hown1) (by simp; omega) hds (by omega)).mono ?_; rintro e w2 ⟨v2, rfl, hown2, hm2⟩))
        all_goals
          go_wp2
          go_roundw
          case rel => exact ⟨k + 1, _, l[k].tag, by omega, by go_num, rfl, hown2, H.out, by simp [fieldB, headB]; omega, hm2.below (below_drew hb1) (fun j hj => by have := (hob _ hj).1; omega)⟩
          case measure => simp [intOf]; omega
      · rw [if_neg hm] at hd
        have H := Lib.hid hd; clear hd
        have hq : (mayF l[k] last == 0) = false := by simp [hm]
        go_wp2_with ((go_at_call 109; refine (pack_may _ _ _).mono ?_; rintro e w1 ⟨rfl, hb⟩; have ha := below_rule hb; have hs := hb.size; (try simp only [World.size_alloc, World.size_setCell, size_put, World.size_drew] at hs)))
        rw [H.out]
        go_ret2
        exact ⟨_, rfl, ownB_nil _ _, by (repeat' (first | exact Below.refl _ _ | assumption | refine below_drew ?_ | refine below_drewN ?_ _ | refine below_alloc ?_ _ | refine below_call ?_ (by assumption) | refine below_put ?_ _ _ _ (by first | omega | (simp; omega)) | refine below_setCell ?_ _ _ (by first | (simp; omega) | (simp; done) | omega) | refine below_putObj ?_ _ _ (by first | omega | (simp; omega) | (simp; done))))⟩
    · have hkl : k = l.length := by omega
      subst hkl
      rw [List.drop_length, layA] at hd
      have H := Lib.hid hd; clear hd
      go_wp2
      rw [H.out]
      go_ret2
      exact ⟨_, rfl, hown, by (repeat' (first | exact Below.refl _ _ | assumption | refine below_drew ?_ | refine below_drewN ?_ _ | refine below_alloc ?_ _ | refine below_call ?_ (by assumption) | refine below_put ?_ _ _ _ (by first | omega | (simp; omega)) | refine below_setCell ?_ _ _ (by first | (simp; omega) | (simp; done) | omega) | refine below_putObj ?_ _ _ (by first | omega | (simp; omega) | (simp; done))))⟩
end Go.Proofs.Ytgnebofjfmbccaa
